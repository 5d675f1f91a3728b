/- A verified symbolic executor, part 11: regions in the text's order, code without a told loop, calls carried out in place. Over any program; the facts on its types are given with it. -/
import Derived.Test.YtbadejabphdkiaaAx10
import Derived.LoopN
import Derived.Deep.LoopGhost
set_option linter.unusedVariables false
set_option linter.unusedSimpArgs false
namespace Go.Ax
variable {El : TypeId → Type}

structure St (El : TypeId → Type) where
  slots : List (AVal El)
  res : List (Res El)

def setF : List (AVal El) → Nat → AVal El → List (AVal El)
  | [], _, _ => []
  | _ :: l, 0, v => v :: l
  | a :: l, n + 1, v => a :: setF l n v
theorem setF_eq (l : List (AVal El)) (n : Nat) (v : AVal El) : setF l n v = l.set n v := by
  induction l generalizing n with
  | nil => rfl
  | cons a l ih => cases n <;> simp [setF, ih]

theorem setF_same {l : List (AVal El)} {n : Nat} {v : AVal El} (h : nth l n = v) : setF l n v = l := by
  induction l generalizing n with
  | nil => rfl
  | cons a l ih => cases n with
    | zero => simp [nth] at h; subst h; rfl
    | succ n => simp [nth] at h; simp [setF, ih h]
/-- A slot that was asked for its truth is known from there on. -/
def setX (slots : List (AVal El)) (x : Operand) (b : Bool) : List (AVal El) := match x with
  | .tmp t => setF slots t (.bool b)
  | _ => slots

def setT (slots : List (AVal El)) (dst : Option Tmp) (v : AVal El) : List (AVal El) :=
  match dst with
  | some d => setF slots d v
  | none => slots

def dstOf : List Oper → Nat → Option Tmp
  | [], _ => none
  | o :: _, 0 => o.dst
  | _ :: l, n + 1 => dstOf l n

def lenR : List (Res El) → Nat
  | [] => 0
  | _ :: l => lenR l + 1
theorem lenR_eq (l : List (Res El)) : lenR l = l.length := by
  induction l with
  | nil => rfl
  | cons a l ih => simp [lenR, ih]

/-- The same number, looked at. -/
def forceN {X : Sort _} : Nat → (Nat → X) → X
  | 0, k => k 0
  | n + 1, k => k (n + 1)
theorem forceN_eq {X : Sort _} (n : Nat) (k : Nat → X) : forceN n k = k n := by cases n <;> rfl
mutual
/-- The same value, looked at through and through. -/
def forceA {X : Type} : AVal El → (AVal El → X) → X
  | .top, k => k .top
  | .bool b, k => k (.bool b)
  | .int i n, k => k (.int i n)
  | .str s, k => k (.str s)
  | .nilp, k => k .nilp
  | .nilf, k => k .nilf
  | .nilm, k => k .nilm
  | .nils, k => k .nils
  | .anyb, k => k .anyb
  | .ptr r o, k => forceN r fun r => forceN o fun o => k (.ptr r o)
  | .eptr r sz i o, k => forceN r fun r => k (.eptr r sz i o)
  | .lptr t xs sz i o, k => k (.lptr t xs sz i o)
  | .cs r o n, k => forceN r fun r => forceN o fun o => forceN n fun n => k (.cs r o n)
  | .fn f l, k => forceL l fun l => k (.fn f l)
  | .list t xs, k => k (.list t xs)
  | .vec r, k => forceN r fun r => k (.vec r)
  | .mapr r, k => forceN r fun r => k (.mapr r)
  | .agg l, k => forceL l fun l => k (.agg l)
  | .tup l, k => forceL l fun l => k (.tup l)
def forceL {X : Type} : List (AVal El) → (List (AVal El) → X) → X
  | [], k => k []
  | a :: l, k => forceA a fun a => forceL l fun l => k (a :: l)
end
mutual
theorem forceA_eq {X : Type} : ∀ (a : AVal El) (k : AVal El → X), forceA a k = k a
  | .top, k => by simp only [forceA]
  | .bool b, k => by simp only [forceA]
  | .int i n, k => by simp only [forceA]
  | .str s, k => by simp only [forceA]
  | .nilp, k => by simp only [forceA]
  | .nilf, k => by simp only [forceA]
  | .nilm, k => by simp only [forceA]
  | .nils, k => by simp only [forceA]
  | .anyb, k => by simp only [forceA]
  | .ptr r o, k => by simp only [forceA, forceN_eq]
  | .eptr r sz i o, k => by simp only [forceA, forceN_eq]
  | .lptr t xs sz i o, k => by simp only [forceA]
  | .cs r o n, k => by simp only [forceA, forceN_eq]
  | .fn f l, k => by simp only [forceA]; exact forceL_eq l _
  | .list t xs, k => by simp only [forceA]
  | .vec r, k => by simp only [forceA, forceN_eq]
  | .mapr r, k => by simp only [forceA, forceN_eq]
  | .agg l, k => by simp only [forceA]; exact forceL_eq l _
  | .tup l, k => by simp only [forceA]; exact forceL_eq l _
theorem forceL_eq {X : Type} : ∀ (l : List (AVal El)) (k : List (AVal El) → X), forceL l k = k l
  | [], k => by simp only [forceL]
  | a :: l, k => by simp only [forceL]; rw [forceA_eq a]; exact forceL_eq l _
end
def forceR {X : Type} : List (Res El) → (List (Res El) → X) → X
  | [], k => k []
  | .dead :: l, k => forceR l fun l => k (.dead :: l)
  | .cells t cs :: l, k => forceL cs fun cs => forceR l fun l => k (.cells t cs :: l)
  | .vec t xs :: l, k => forceR l fun l => k (.vec t xs :: l)
  | .mapS i t m :: l, k => forceR l fun l => k (.mapS i t m :: l)
  | .mapC cs :: l, k => forceL cs fun cs => forceR l fun l => k (.mapC cs :: l)
theorem forceR_eq {X : Type} (l : List (Res El)) (k : List (Res El) → X) : forceR l k = k l := by
  induction l generalizing k with
  | nil => rfl
  | cons x l ih =>
    cases x with
    | dead => simp only [forceR]; exact ih _
    | cells t cs => simp only [forceR]; rw [forceL_eq]; exact ih _
    | vec t xs => simp only [forceR]; exact ih _
    | mapS i t m => simp only [forceR]; exact ih _
    | mapC cs => simp only [forceR]; rw [forceL_eq]; exact ih _
def forceSt {X : Type} (st : St El) (k : St El → X) : X := forceL st.slots fun sl => forceR st.res fun R => k ⟨sl, R⟩
theorem forceSt_eq {X : Type} (st : St El) (k : St El → X) : forceSt st k = k st := by
  unfold forceSt; rw [forceL_eq, forceR_eq]

/-- The same value, its head looked at. -/
def shA {X : Type} : AVal El → (AVal El → X) → X
  | .top, k => k .top
  | .bool b, k => k (.bool b)
  | .int i n, k => k (.int i n)
  | .str s, k => k (.str s)
  | .nilp, k => k .nilp
  | .nilf, k => k .nilf
  | .nilm, k => k .nilm
  | .nils, k => k .nils
  | .anyb, k => k .anyb
  | .ptr r o, k => forceN r fun r => forceN o fun o => k (.ptr r o)
  | .eptr r sz i o, k => forceN r fun r => k (.eptr r sz i o)
  | .lptr t xs sz i o, k => k (.lptr t xs sz i o)
  | .cs r o n, k => k (.cs r o n)
  | .fn f l, k => k (.fn f l)
  | .list t xs, k => k (.list t xs)
  | .vec r, k => forceN r fun r => k (.vec r)
  | .mapr r, k => k (.mapr r)
  | .agg l, k => k (.agg l)
  | .tup l, k => k (.tup l)
theorem shA_eq {X : Type} (a : AVal El) (k : AVal El → X) : shA a k = k a := by
  cases a <;> simp only [shA, forceN_eq]
def shL {X : Type} : List (AVal El) → (List (AVal El) → X) → X
  | [], k => k []
  | a :: l, k => shA a fun a => shL l fun l => k (a :: l)
theorem shL_eq {X : Type} (l : List (AVal El)) (k : List (AVal El) → X) : shL l k = k l := by
  induction l generalizing k with
  | nil => rfl
  | cons a l ih => simp only [shL]; rw [shA_eq]; exact ih _
/-- The heads of the slots looked at, where another guard begins. -/
def shSt {X : Type} (b : Bool) (st : St El) (k : St El → X) : X := match b with
  | true => k st
  | false => shL st.slots fun sl => k ⟨sl, st.res⟩
theorem shSt_eq {X : Type} (b : Bool) (st : St El) (k : St El → X) : shSt b st k = k st := by
  cases b
  · exact shL_eq _ _
  · rfl
def sameG : Option Nat → Nat → Bool
  | some a, b => Nat.beq a b
  | none, _ => false

section defs
variable (c : Cx El) (Γ : FuncId → Option (GSpec El))

/-- Operations in the text's order. 'all': the region's operations, for the guards. -/
def aregion (all : List Oper) : List Oper → Option Nat → St El → Tree (St El)
  | [], _, st => .leaf st
  | o :: rest, pg, st =>
    match o.guard with
    | none => (aop c Γ st.res (lenR st.res) (evA st.slots) o.op).bind fun y => aregion all rest none ⟨setT st.slots o.dst y.1, updR st.res y.2⟩
    | some (g, want) => shSt (sameG pg g) st fun st => match dstOf all g with
      | some t => match nth st.slots t with
        | .bool b => .node (b == want)
            ((aop c Γ st.res (lenR st.res) (evA (setF st.slots t (.bool want))) o.op).bind fun y => aregion all rest (some g) ⟨setT (setF st.slots t (.bool want)) o.dst y.1, updR st.res y.2⟩)
            (aregion all rest (some g) ⟨setT (setF st.slots t (.bool !want)) o.dst (.tup []), st.res⟩)
        | .tup l => match l with
          | [] => aregion all rest (some g) ⟨setT st.slots o.dst (.tup []), st.res⟩
          | _ => .fail
        | _ => .fail
      | none => .fail

/-- How a piece of code is left. -/
inductive AEx where
  | normal
  | exit (id : Nat)
  | ret

def AEx.of : AEx → Exit
  | .normal => .normal
  | .exit id => .exit id
  | .ret => .ret
end defs

/-- The abstract state stands for a frame and a world. -/
structure HoldS (c : Cx El) (I : Nat → Prop) (E : Env) (st : St El) (a : Act) (w : World) : Prop where
  hr : HR c.L I w E st.res
  slots : SlotsOk c I w E st.slots a
  free : FreeFrom E (lenR st.res)
  nodefer : a.defers = []

theorem lenR_setR (l : List (Res El)) (n : Nat) (x : Res El) : lenR l ≤ lenR (setR l n x) ∧ n < lenR (setR l n x) := by
  induction l generalizing n with
  | nil =>
    induction n with
    | zero => simp [setR, lenR]
    | succ n ih => simp [setR, lenR] at ih ⊢; omega
  | cons a l ih =>
    cases n with
    | zero => simp [setR, lenR]
    | succ n => have := ih n; simp [setR, lenR]; omega
theorem lenR_updR (R : List (Res El)) (upd : List (Nat × Res El)) : lenR R ≤ lenR (updR R upd) ∧ ∀ r x, (r, x) ∈ upd → r < lenR (updR R upd) := by
  induction upd generalizing R with
  | nil => exact ⟨Nat.le_refl _, fun r x h => by simp at h⟩
  | cons u us ih =>
    obtain ⟨n, y⟩ := u
    obtain ⟨h1, h2⟩ := ih (setR R n y)
    have h3 := lenR_setR R n y
    refine ⟨Nat.le_trans h3.1 h1, fun r x h => ?_⟩
    rcases List.mem_cons.1 h with h | h
    · cases h; exact Nat.lt_of_lt_of_le h3.2 h1
    · exact h2 r x h

section proofs
variable {I : Nat → Prop} {E : Env} {w w' : World} {c : Cx El} {Γ : FuncId → Option (GSpec El)}

theorem slots_put {slots : List (AVal El)} {a : Act} {dst : Option Tmp} {x : AVal El} {v : Value} (h : SlotsOk c I w E slots a) (hr : Rep c.L I w E x v) : SlotsOk c I w E (setT slots dst x) (a.put dst v) := by
  cases dst with
  | none => exact h
  | some d =>
    unfold SlotsOk at *
    simp only [setT, setF_eq, Act.put, Array.toList_setIfInBounds]
    exact Reps.set h d hr

theorem put_defers (a : Act) (dst : Option Tmp) (v : Value) : (a.put dst v).defers = a.defers := by cases dst <;> rfl

theorem HoldS.step {st : St El} {a : Act} (h : HoldS c I E st a w) {y : Eff El} {v : Value} {I' : Nat → Prop} {E' : Env} (hp : Post c.L I E st.res w (lenR st.res) y.2 y.1 v w' I' E') (dst : Option Tmp) :
    HoldS c I' E' ⟨setT st.slots dst y.1, updR st.res y.2⟩ (a.put dst v) w' := by
  refine ⟨hp.hr, slots_put (h.hr.keepReps hp.ext h.slots) hp.rep, fun r hr => ?_, by rw [put_defers]; exact h.nodefer⟩
  have hl := lenR_updR st.res y.2
  simp only at hr
  rw [hp.names r (fun x hx => absurd (hl.2 r x hx) (by omega))]
  exact h.free r (by omega)

theorem dstOf_eq (l : List Oper) (n : Nat) : dstOf l n = (l[n]?).bind (·.dst) := by
  induction l generalizing n with
  | nil => simp [dstOf]
  | cons o l ih => cases n <;> simp [dstOf, ih]

theorem rep_undef {E : Env} : Rep c.L I w E (.tup []) undef := .tup (vs := []) rfl (fun i c v hc => by simp at hc)
theorem yielded_no {ops : Array Oper} {slots : List (AVal El)} {a : Act} {g : Nat} {t : Tmp} (hs : SlotsOk c I w E slots a) (ht : dstOf ops.toList g = some t) (hb : nth slots t = .tup []) :
    yielded ops a.tmps g = none := by
  rw [dstOf_eq] at ht
  have hg : (ops[g]?).bind (·.dst) = some t := by simpa using ht
  have hlt : t < slots.length := by
    rw [nth_eq, List.getD_eq_getElem?_getD] at hb
    rcases Nat.lt_or_ge t slots.length with h | h
    · exact h
    · rw [List.getElem?_eq_none h] at hb; simp at hb
  have hlt' : t < a.tmps.size := Nat.lt_of_lt_of_eq hlt (Reps.len hs)
  have hr := hs.getD t undef
  rw [hb] at hr
  unfold yielded
  rw [hg]
  simp only [Option.bind_some]
  have he : a.tmps[t]? = some a.tmps[t] := Array.getElem?_eq_getElem hlt'
  rw [he]
  have he2 : a.tmps.toList.getD t undef = a.tmps[t] := by simp [List.getD_eq_getElem?_getD, he]
  rw [he2] at hr
  generalize a.tmps[t] = v at hr
  cases hr
  rfl
theorem yielded_of {ops : Array Oper} {slots : List (AVal El)} {a : Act} {g : Nat} {t : Tmp} {b : Bool} (hs : SlotsOk c I w E slots a) (ht : dstOf ops.toList g = some t) (hb : nth slots t = .bool b) :
    yielded ops a.tmps g = some b := by
  rw [dstOf_eq] at ht
  have hg : (ops[g]?).bind (·.dst) = some t := by simpa using ht
  have hlt : t < slots.length := by
    rw [nth_eq, List.getD_eq_getElem?_getD] at hb
    rcases Nat.lt_or_ge t slots.length with h | h
    · exact h
    · rw [List.getElem?_eq_none h] at hb; simp at hb
  have hlt' : t < a.tmps.size := Nat.lt_of_lt_of_eq hlt (Reps.len hs)
  have hr := hs.getD t undef
  rw [hb] at hr
  unfold yielded
  rw [hg]
  simp only [Option.bind_some, Array.getElem?_eq_getElem hlt']
  have he : a.tmps.toList.getD t undef = a.tmps[t] := by
    rw [List.getD_eq_getElem?_getD, Array.getElem?_toList, Array.getElem?_eq_getElem hlt']; rfl
  rw [he] at hr
  generalize a.tmps[t] = v at hr
  cases hr
  rfl

/-- No old name is given anew; no name is lost. -/
structure Names (E : Env) (st : St El) (E' : Env) (st' : St El) : Prop where
  same : ∀ r, r < lenR st.res → E' r = E r
  len : lenR st.res ≤ lenR st'.res
theorem Names.refl {E : Env} {st : St El} : Names E st E st := ⟨fun _ _ => rfl, Nat.le_refl _⟩
theorem Names.trans {E E1 E2 : Env} {st st1 st2 : St El} (h : Names E st E1 st1) (h' : Names E1 st1 E2 st2) : Names E st E2 st2 :=
  ⟨fun r hr => (h'.same r (Nat.lt_of_lt_of_le hr h.len)).trans (h.same r hr), Nat.le_trans h.len h'.len⟩

/-- Slots that an operation list does not write. -/
def Keeps (l : List Oper) (a a' : Act) : Prop := a'.tmps.size = a.tmps.size ∧ ∀ t, (∀ o ∈ l, o.dst ≠ some t) → a'.tmps[t]? = a.tmps[t]?

theorem put_keeps (a : Act) (o : Oper) (v : Value) {t : Tmp} (h : o.dst ≠ some t) : (a.put o.dst v).tmps[t]? = a.tmps[t]? := by
  cases hd : o.dst with
  | none => rfl
  | some d =>
    have : d ≠ t := fun e => h (by rw [hd, e])
    simp [Act.put, Array.getElem?_setIfInBounds_ne this]
theorem put_size (a : Act) (dst : Option Tmp) (v : Value) : (a.put dst v).tmps.size = a.tmps.size := by cases dst <;> simp [Act.put]

theorem aregion_ok (hΓ : ∀ f g, Γ f = some g → GOk c f g) {ops : Array Oper} {Q : Exit → Act → World → Prop} {l : List Oper} {pg : Option Nat} {st st' : St El} {a : Act} (ho : (aregion c Γ ops.toList l pg st).Out st') (h : HoldS c I E st a w)
    (hQ : ∀ a' w' I' E', Ext I E st.res w I' E' st'.res w' → HoldS c I' E' st' a' w' → Keeps l a a' → Names E st E' st' → Q .normal a' w') : wpList c.P ops Q l a w := by
  induction l generalizing st a I E w pg with
  | nil =>
    simp only [aregion, Tree.Out] at ho; subst ho
    exact hQ a w I E Ext.refl h ⟨rfl, fun _ _ => rfl⟩ Names.refl
  | cons o rest ih =>
    have run : ∀ (pg' : Option Nat) (ho : ((aop c Γ st.res (lenR st.res) (evA st.slots) o.op).bind fun y => aregion c Γ ops.toList rest pg' ⟨setT st.slots o.dst y.1, updR st.res y.2⟩).Out st'),
        o.wp c.P a w (wpList c.P ops Q rest) Q := by
      intro pg' ho
      rw [Tree.out_bind] at ho
      obtain ⟨y, h1, h2⟩ := ho
      refine aop_ok hΓ (evA_ok h.slots) h.hr h1 (fun r x _ hb => h.free r hb) _ _ ?_
      rintro v w' ⟨I', E', hp⟩
      have hnm : Names E st E' (⟨setT st.slots o.dst y.1, updR st.res y.2⟩ : St El) := ⟨fun r hr => hp.names r (fun _ _ => hr), (lenR_updR st.res y.2).1⟩
      refine ih h2 (h.step hp o.dst) (fun a' w'' I'' E'' hx hs hk hn => hQ a' w'' I'' E'' (hp.ext.trans hx) hs ?_ (hnm.trans hn))
      refine ⟨hk.1.trans (put_size _ _ _), fun t ht => (hk.2 t (fun o' ho' => ht o' (List.mem_cons_of_mem _ ho'))).trans (put_keeps a o v (ht o (List.mem_cons_self ..)))⟩
    simp only [aregion] at ho
    unfold wpList
    split at ho
    · rename_i hg
      rw [if_pos (by simp [Region.wanted, hg])]
      exact .inl (run _ ho)
    · rename_i g want hg
      rw [shSt_eq] at ho
      split at ho
      · rename_i t ht
        split at ho
        · rename_i b hb
          have hy := yielded_of h.slots ht hb
          simp only [Tree.Out] at ho
          have hsame : ∀ q, b = q → setF st.slots t (.bool q) = st.slots := fun q hq => setF_same (by rw [hb, hq])
          rcases ho with ⟨hbw, ho⟩ | ⟨hbw, ho⟩
          · rw [hsame want (by simpa using hbw)] at ho
            rw [if_pos (by simp only [Region.wanted, hg, hy]; simpa using hbw)]
            exact .inl (run _ ho)
          · rw [hsame (!want) (by cases b <;> cases want <;> simp_all)] at ho
            rw [if_neg (by simp only [Region.wanted, hg, hy]; simpa using hbw)]
            have hstep : HoldS c I E ⟨setT st.slots o.dst (.tup []), st.res⟩ (a.put o.dst undef) w :=
              ⟨h.hr, slots_put h.slots rep_undef, h.free, by rw [put_defers]; exact h.nodefer⟩
            refine ih ho hstep (fun a' w'' I'' E'' hx hs hk hn => hQ a' w'' I'' E'' hx hs ?_ ⟨hn.same, hn.len⟩)
            refine ⟨hk.1.trans (put_size _ _ _), fun t ht => (hk.2 t (fun o' ho' => ht o' (List.mem_cons_of_mem _ ho'))).trans (put_keeps a o undef (ht o (List.mem_cons_self ..)))⟩
        · split at ho
          · rename_i hb
            have hy := yielded_no h.slots ht hb
            rw [if_neg (by simp [Region.wanted, hg, hy])]
            have hstep : HoldS c I E ⟨setT st.slots o.dst (.tup []), st.res⟩ (a.put o.dst undef) w :=
              ⟨h.hr, slots_put h.slots rep_undef, h.free, by rw [put_defers]; exact h.nodefer⟩
            refine ih ho hstep (fun a' w'' I'' E'' hx hs hk hn => hQ a' w'' I'' E'' hx hs ?_ ⟨hn.same, hn.len⟩)
            refine ⟨hk.1.trans (put_size _ _ _), fun t ht => (hk.2 t (fun o' ho' => ht o' (List.mem_cons_of_mem _ ho'))).trans (put_keeps a o undef (ht o (List.mem_cons_self ..)))⟩
          · exact ho.elim
        · exact ho.elim
      · exact ho.elim
end proofs
end Go.Ax
