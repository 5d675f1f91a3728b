/- A verified symbolic executor, part 17: whole functions, and calls carried out in place. Over any program; the facts on its types are given with it. -/
import Derived.Test.YtbadejabphdkiaaAx16
set_option linter.unusedVariables false
set_option linter.unusedSimpArgs false
namespace Go.Ax
variable {El : TypeId → Type}

def tops : Nat → List (AVal El)
  | 0 => []
  | n + 1 => .top :: tops n
def fillTo : Nat → List (AVal El) → List (AVal El)
  | n, [] => tops n
  | 0, a :: l => a :: l
  | n + 1, a :: l => a :: fillTo n l
theorem fillTo_eq (n : Nat) (l : List (AVal El)) : fillTo n l = l ++ List.replicate (n - l.length) .top := by
  have ht : ∀ n, (tops n : List (AVal El)) = List.replicate n .top := fun n => by
    induction n with
    | zero => rfl
    | succ n ih => simp [tops, ih, List.replicate_succ]
  induction l generalizing n with
  | nil => simp [fillTo, ht]
  | cons a l ih => cases n with
    | zero => simp [fillTo]
    | succ n => simp [fillTo, ih]

section defs
variable (c : Cx El)

def ares1 (st : St El) : ResultVar → Tree (AVal El)
  | .tmp t => .leaf (nth st.slots t)
  | .cell a t => match nth st.slots a with
    | .ptr r o => aLoad c st.res t (.ptr r o)
    | _ => .fail
def aresL (st : St El) : List ResultVar → Tree (List (AVal El))
  | [] => .leaf []
  | x :: xs => (ares1 c st x).bind fun a => (aresL st xs).bind fun l => .leaf (a :: l)
def one : List (AVal El) → AVal El
  | [a] => a
  | l => .tup l
def ares (fn : Func) (st : St El) : Tree (AVal El) := (aresL c st fn.results.toList).bind fun l => .leaf (one l)
end defs

def resOf (tmps : Array Value) : ResultVar → Sem Value
  | .tmp t => pure (tmps.getD t undef)
  | .cell ad t => do loadVar t (← asAddr (tmps.getD ad undef))
theorem results_eq (fn : Func) (tmps : Array Value) : results fn tmps = (do
    let vs ← fn.results.mapM (resOf tmps)
    pure (if h : vs.size = 1 then vs[0] else .tuple vs)) := by
  unfold results
  congr 1

section proofs
variable {c : Cx El} {Γ : FuncId → Option (GSpec El)} {spec : Nat → Option (St El → LSpec El)}

theorem ares1_ok {I : Nat → Prop} {E : Env} {st : St El} {a : Act} {w : World} (h : HoldS c I E st a w) {x : ResultVar} {y : AVal El} (ho : (ares1 c st x).Out y) :
    ∃ v, (resOf a.tmps x).run c.P w = .ok v w ∧ Rep c.L I w E y v := by
  have slot : ∀ t, Rep c.L I w E (nth st.slots t) (a.tmps.getD t undef) := fun t => by
    have := h.slots.getD t undef
    simpa [Array.getD_eq_getD_getElem?, List.getD_eq_getElem?_getD] using this
  cases x with
  | tmp t =>
    simp only [ares1, Tree.Out] at ho; subst ho
    exact ⟨_, rfl, slot t⟩
  | cell ad t =>
    simp only [ares1] at ho
    have hs := slot ad
    split at ho
    · rename_i r o he
      rw [he] at hs
      generalize hv : a.tmps.getD ad undef = v at hs
      obtain ⟨u, h1, h2⟩ := aLoad_ok h.hr hs ho
      refine ⟨u, ?_, h2⟩
      cases hs
      simpa [resOf, Instr.loadAt, hv, Instr.sureAddr, asAddr] using h1
    · exact ho.elim

theorem aresL_ok {I : Nat → Prop} {E : Env} {st : St El} {a : Act} {w : World} (h : HoldS c I E st a w) {xs : List ResultVar} {l : List (AVal El)} (ho : (aresL c st xs).Out l) :
    ∃ vs, (xs.mapM (resOf a.tmps)).run c.P w = .ok vs w ∧ Reps c.L I w E l vs := by
  induction xs generalizing l with
  | nil =>
    simp only [aresL, Tree.Out] at ho; subst ho
    exact ⟨[], by simp, Reps.nil⟩
  | cons x xs ih =>
    simp only [aresL] at ho
    rw [Tree.out_bind] at ho
    obtain ⟨y, h1, h2⟩ := ho
    rw [Tree.out_bind] at h2
    obtain ⟨l', h2, h3⟩ := h2
    simp only [Tree.Out] at h3; subst h3
    obtain ⟨v, g1, g2⟩ := ares1_ok h h1
    obtain ⟨vs, g3, g4⟩ := ih h2
    refine ⟨v :: vs, ?_, Reps.cons g2 g4⟩
    rw [List.mapM_cons]
    simp [g1, g3]

theorem ares_ok {I : Nat → Prop} {E : Env} {st : St El} {a : Act} {w : World} {fn : Func} (h : HoldS c I E st a w) {y : AVal El} (ho : (ares c fn st).Out y) :
    ∃ v, (results fn a.tmps).run c.P w = .ok v w ∧ Rep c.L I w E y v := by
  unfold ares at ho
  rw [Tree.out_bind] at ho
  obtain ⟨l, h1, h2⟩ := ho
  simp only [Tree.Out] at h2; subst h2
  obtain ⟨vs, g1, g2⟩ := aresL_ok h h1
  refine ⟨if h : vs.toArray.size = 1 then vs.toArray[0] else .tuple vs.toArray, ?_, ?_⟩
  · rw [results_eq, Array.mapM_eq_mapM_toList]
    simp only [Sem.run_bind, bind_map_left, g1]
    simp [g1]
  · cases l with
    | nil => cases g2.inv_nil; exact .tup rfl (fun i c v hc => by simp at hc)
    | cons x l =>
      obtain ⟨v, vs', rfl, k1, k2⟩ := g2.inv_cons
      cases l with
      | nil => cases k2.inv_nil; exact k1
      | cons x' l =>
        obtain ⟨v', vs'', rfl, k3, k4⟩ := k2.inv_cons
        have : ¬ ((v :: v' :: vs'').toArray.size = 1) := by simp
        rw [dif_neg this]
        exact .tup g2.len g2.at_

/-- What stands where a call has come back. -/
structure Back (c : Cx El) (I : Nat → Prop) (E : Env) (R : List (Res El)) (w : World) (x : AVal El) (R' : List (Res El)) (v : Value) (w' : World) (I' : Nat → Prop) (E' : Env) : Prop where
  ext : Ext I E R w I' E' R' w'
  hr : HR c.L I' w' E' R'
  rep : Rep c.L I' w' E' x v
  same : ∀ r, r < lenR R → E' r = E r
  len : lenR R ≤ lenR R'
  free : FreeFrom E' (lenR R')

def startSt (fn : Func) (args : List (AVal El)) (R : List (Res El)) : St El := ⟨fillTo fn.ntmps args, R⟩

theorem start_ok {I : Nat → Prop} {E : Env} {w : World} {fn : Func} {args : List (AVal El)} {vals : List Value} {R : List (Res El)} (hargs : Reps c.L I w E args vals) (hr : HR c.L I w E R) (hf : FreeFrom E (lenR R)) :
    HoldS c I E (startSt fn args R) { tmps := vals.toArray ++ Array.replicate (fn.ntmps - vals.toArray.size) undef, defers := [] } w := by
  refine ⟨hr, ?_, hf, rfl⟩
  unfold SlotsOk startSt
  simp only [fillTo_eq]
  have : (vals.toArray ++ Array.replicate (fn.ntmps - vals.toArray.size) undef).toList = vals ++ List.replicate (fn.ntmps - args.length) undef := by simp [hargs.len]
  rw [this]
  refine hargs.append ⟨by simp, fun i x v hx hv => ?_⟩
  rw [List.getElem?_replicate] at hx
  split at hx
  · cases hx; exact .top
  · cases hx

section
variable (C : Bool → Prop → Prop → Prop) (c : Cx El) (Γ : FuncId → Option (GSpec El)) (spec : Nat → Option (St El → LSpec El))
/-- What is to be proved so that a function comes back with 'K'. -/
def aexecF (n : Nat) (fn : Func) (code : Code) (args : List (AVal El)) (R : List (Res El)) (K : AVal El → List (Res El) → Prop) : Prop :=
  aexec C c Γ spec n code (startSt fn args R) fun e st' => match e with
    | .exit _ => False
    | _ => (ares c fn st').wp C fun x => K x st'.res
/-- A function without a told loop. -/
def texecF (n : Nat) (fn : Func) (code : Code) (args : List (AVal El)) (R : List (Res El)) : Tree (AVal El × List (Res El)) :=
  (texec c Γ n code (startSt fn args R)).bind fun y => match y.1 with
    | .exit _ => .fail
    | _ => (ares c fn y.2).bind fun x => .leaf (x, y.2.res)
end

theorem back_post {code : Code} {I I' : Nat → Prop} {E E' : Env} {w w' : World} {fn : Func} {args : List (AVal El)} {R : List (Res El)} {st' : St El} {a a' : Act} {x : AVal El} {Φ : Ending → World → Prop}
    (hr : Reach c code I E (startSt fn args R) a w I' E' st' a' w') (ho : (ares c fn st').Out x) (hΦ : ∀ v, Back c I E R w x st'.res v w' I' E' → Φ (.returned v) w') {ex : Exit} (hex : ex = .normal ∨ ex = .ret) : bodyPost c.P fn Φ ex a' w' := by
  obtain ⟨v, h1, h2⟩ := ares_ok hr.holds ho
  rcases hex with rfl | rfl <;> exact ⟨hr.holds.nodefer, v, h1, hΦ v ⟨hr.ext, hr.holds.hr, h2, hr.names.same, hr.names.len, hr.holds.free⟩⟩

theorem aexecF_ok (hΓ : ∀ f g, Γ f = some g → GOk c f g) {f : FuncId} {fn : Func} {code : Code} (hfn : c.P.funcs[f]? = some fn) (hb : fn.body = some code) {n : Nat} {args : List (AVal El)} {R : List (Res El)}
    {K : AVal El → List (Res El) → Prop} (h : aexecF cnd c Γ spec n fn code args R K) {I : Nat → Prop} {E : Env} {w : World} {vals : List Value} (hargs : Reps c.L I w E args vals) (hr : HR c.L I w E R) (hf : FreeFrom E (lenR R)) :
    Calls c.P f vals.toArray w fun e w' => ∃ v x R' I' E', e = .returned v ∧ K x R' ∧ Back c I E R w x R' v w' I' E' := by
  refine calls_of_wp hfn hb ?_
  refine (aexec_ok hΓ n code _ _ h I E _ w _ (start_ok hargs hr hf) ?_).1
  intro e st' a' w' I' E' hk hreach
  cases e with
  | exit id => exact hk.elim
  | normal =>
    obtain ⟨x, h1, h2⟩ := Tree.out_of_wp hk
    exact back_post hreach h1 (fun v hv => ⟨v, x, st'.res, I', E', rfl, h2, hv⟩) (by simp [AEx.of])
  | ret =>
    obtain ⟨x, h1, h2⟩ := Tree.out_of_wp hk
    exact back_post hreach h1 (fun v hv => ⟨v, x, st'.res, I', E', rfl, h2, hv⟩) (by simp [AEx.of])

theorem texecF_ok (hΓ : ∀ f g, Γ f = some g → GOk c f g) {f : FuncId} {fn : Func} {code : Code} (hfn : c.P.funcs[f]? = some fn) (hb : fn.body = some code) {n : Nat} {args : List (AVal El)} {R R' : List (Res El)} {x : AVal El}
    (h : (texecF c Γ n fn code args R).Out (x, R')) {I : Nat → Prop} {E : Env} {w : World} {vals : List Value} (hargs : Reps c.L I w E args vals) (hr : HR c.L I w E R) (hf : FreeFrom E (lenR R)) :
    Calls c.P f vals.toArray w fun e w' => ∃ v I' E', e = .returned v ∧ Back c I E R w x R' v w' I' E' := by
  refine calls_of_wp hfn hb ?_
  unfold texecF at h
  rw [Tree.out_bind] at h
  obtain ⟨⟨e, st'⟩, h1, h2⟩ := h
  refine (texec_ok hΓ n code _ e st' h1 I E _ w _ (start_ok hargs hr hf) ?_).1
  intro a' w' I' E' hreach
  cases e with
  | exit id => exact h2.elim
  | normal =>
    simp only at h2
    rw [Tree.out_bind] at h2
    obtain ⟨y, h3, h4⟩ := h2
    simp only [Tree.Out, Prod.mk.injEq] at h4; obtain ⟨rfl, rfl⟩ := h4
    exact back_post hreach h3 (fun v hv => ⟨v, I', E', rfl, hv⟩) (by simp [AEx.of])
  | ret =>
    simp only at h2
    rw [Tree.out_bind] at h2
    obtain ⟨y, h3, h4⟩ := h2
    simp only [Tree.Out, Prod.mk.injEq] at h4; obtain ⟨rfl, rfl⟩ := h4
    exact back_post hreach h3 (fun v hv => ⟨v, I', E', rfl, hv⟩) (by simp [AEx.of])
end proofs
-- else each use of a proved statement has its type reckoned out
attribute [irreducible] aexecF
end Go.Ax
