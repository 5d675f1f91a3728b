/- A verified symbolic executor, part 12: a region that draws the order of its operations: carried out once, in the text's order, where no two operations that may change places meet. Over any program; the facts on its types are given with it. -/
import Derived.Test.YtbadejabphdkiaaAx11
set_option linter.unusedVariables false
set_option linter.unusedSimpArgs false
namespace Go.Ax
variable {El : TypeId → Type}

def natAt : List Nat → Nat → Nat
  | [], _ => 0
  | a :: _, 0 => a
  | _ :: l, n + 1 => natAt l n

/-- The operations that an operation must wait for, as bits, out of its edges and the bits of those before it. -/
def ancOf (prev : List Nat) : List Edge → Nat
  | [] => 0
  | e :: es => if Region.binds .any e = true then (2 ^ e.on ||| natAt prev e.on) ||| ancOf prev es else ancOf prev es
def ancsFrom : List Oper → List Nat → List Nat
  | [], acc => acc
  | o :: rest, acc => ancsFrom rest (acc ++ [ancOf acc o.after.toList])
def ancs (all : List Oper) : List Nat := ancsFrom all []

/-- What one operation came to. -/
structure Ent (El : TypeId → Type) where
  val : AVal El
  upd : List (Nat × Res El)
  base : Nat

def entAt : List (Ent El) → Nat → Option (Ent El)
  | [], _ => none
  | a :: _, 0 => some a
  | _ :: l, n + 1 => entAt l n
theorem entAt_eq (l : List (Ent El)) (n : Nat) : entAt l n = l[n]? := by
  induction l generalizing n with
  | nil => simp [entAt]
  | cons a l ih => cases n <;> simp [entAt, ih]

/-- The operation that writes a slot. -/
def writerOf : List Oper → Tmp → Nat → Option Nat
  | [], _, _ => none
  | o :: rest, t, k => match o.dst with
    | some d => if d = t then some k else writerOf rest t (k + 1)
    | none => writerOf rest t (k + 1)

section defs
variable (c : Cx El) (Γ : FuncId → Option (GSpec El))

/-- What operation 'j' may be sure to find in a slot. -/
def evM (all : List Oper) (an : List Nat) (slots : List (AVal El)) (tr : List (Ent El)) (j : Nat) : Operand → AVal El
  | .tmp t => match writerOf all t 0 with
    | none => nth slots t
    | some i => if (natAt an j).testBit i = true then match entAt tr i with
        | some e => e.val
        | none => .top
      else if i = j ∨ (natAt an i).testBit j = true then nth slots t else .top
  | .const v => absV v
  | .func f => .fn f []
  | .global _ => .top

/-- The resources behind some of the operations. -/
def resF (m : Nat → Bool) : List (Ent El) → Nat → List (Res El) → List (Res El)
  | [], _, R => R
  | e :: es, k, R => resF m es (k + 1) (if m k = true then updR R e.upd else R)

def isDead : Res El → Bool
  | .dead => true
  | _ => false

/-- Names that are turned stand for something; the others are new. -/
def updOk (R : List (Res El)) (base : Nat) : List (Nat × Res El) → Bool
  | [] => true
  | (r, _) :: us => (decide (base ≤ r) || !isDead (getR R r)) && updOk R base us

def maxUpd : Nat → List (Nat × Res El) → Nat
  | m, [] => m
  | m, (r, _) :: us => maxUpd (if r < m then m else r + 1) us

/-- What a guard has told. -/
def setV : List (Ent El) → Nat → Bool → List (Ent El)
  | [], _, _ => []
  | e :: l, 0, q => ⟨.bool q, e.upd, e.base⟩ :: l
  | e :: l, n + 1, q => e :: setV l n q
def setTr (all : List Oper) (an : List Nat) (j : Nat) (t : Tmp) (tr : List (Ent El)) (q : Bool) : List (Ent El) := match writerOf all t 0 with
  | some i => match (natAt an j).testBit i with
    | true => setV tr i q
    | false => tr
  | none => tr

def traceD (all : List Oper) (an : List Nat) (st : St El) : List Oper → Nat → Nat → List (Ent El) → Tree (List (Ent El))
  | [], _, _, tr => .leaf tr
  | o :: rest, j, base, tr =>
    let R := resF (natAt an j).testBit tr 0 st.res
    let run := fun (tr : List (Ent El)) => (aop c Γ R base (evM all an st.slots tr j) o.op).bind fun y =>
      if updOk R base y.2 = true then traceD all an st rest (j + 1) (maxUpd base y.2) (tr ++ [⟨y.1, y.2, base⟩]) else .fail
    match o.guard with
    | none => run tr
    | some (g, want) => match dstOf all g with
      | some t => match evM all an st.slots tr j (.tmp t) with
        | .bool b => .node (b == want) (run (setTr all an j t tr want)) (traceD all an st rest (j + 1) base (setTr all an j t tr (!want) ++ [⟨.top, [], base⟩]))
        | _ => .fail
      | none => .fail

/-- Operations that look at resources or name new ones. -/
def touches : Op → Bool
  | .move _ | .assign _ | .pick .. | .build .. | .binOp .. | .unOp .. | .convert .. | .makeFunc .. | .fieldAddr .. | .index .. | .extract .. | .nilCheck _ => false
  | _ => true

def turns (e : Ent El) : Bool := e.upd.any fun u => decide (u.1 < e.base)

def lenA : List (AVal El) → Nat
  | [] => 0
  | _ :: l => lenA l + 1
theorem lenA_eq (l : List (AVal El)) : lenA l = l.length := by
  induction l with
  | nil => rfl
  | cons a l ih => simp [lenA, ih]

/-- An operation that looks at no more of a vector than its length. -/
def softE : Op → AVal El → Bool
  | .indexAddr .., .eptr .. => true
  | _, _ => false
/-- The resources that an operation looks at, where that is plain. -/
def softL (all : List Oper) (an : List Nat) (slots : List (AVal El)) (tr : List (Ent El)) (j : Nat) : Op → Option (List Nat)
  | .load _ x => match evM all an slots (tr.take j) j x with
    | .ptr r _ => some [r]
    | .lptr _ _ _ _ _ => some []
    | _ => none
  | .indexAddr _ x _ => match evM all an slots (tr.take j) j x with
    | .ptr _ _ => some []
    | .cs _ _ _ => some []
    | .list _ _ => some []
    | _ => none
  | .call cl => match cl.callee with
    | .builtin .len => match cl.args.toList with
      | [x] => match evM all an slots (tr.take j) j x with
        | .list _ _ => some []
        | .nils => some []
        | .cs _ _ _ => some []
        | _ => none
      | _ => none
    | _ => none
  | _ => none
def notIn (r : Nat) : List Nat → Bool
  | [] => true
  | a :: l => !Nat.beq r a && notIn r l
def spares (e : Ent El) (rs : List Nat) : Bool := e.upd.all fun u => notIn u.1 rs
theorem notIn_ne {r : Nat} {rs : List Nat} (h : notIn r rs = true) : r ∉ rs := by
  induction rs with
  | nil => simp
  | cons a l ih =>
    simp only [notIn, Bool.and_eq_true] at h
    have h1 : Nat.beq r a = false := by simpa using h.1
    intro hm
    rcases List.mem_cons.1 hm with rfl | hm
    · rw [Nat.beq_refl] at h1; cases h1
    · exact ih h.2 hm
def isVecR : Res El → Bool
  | .vec _ _ => true
  | _ => false
/-- All that is turned was a vector at the outset. -/
def vecTurns (R : List (Res El)) (e : Ent El) : Bool := e.upd.all fun u => decide (e.base ≤ u.1) || isVecR (getR R u.1)
/-- A vector stays one, of one length. -/
def lenU (R : List (Res El)) : List (Nat × Res El) → Prop
  | [] => True
  | (r, x) :: us => match getR R r with
    | .vec t xs => (match x with
      | .vec t' ys => t' = t ∧ ys.length = xs.length
      | _ => False) ∧ lenU R us
    | _ => lenU R us
def lens (R : List (Res El)) : List (Ent El) → Prop
  | [] => True
  | e :: es => match e.upd with
    | [] => lens R es
    | us => lenU R us ∧ lens R es

/-- No slot is written twice; edges point back; an operation that turns a resource can't change places with one that looks at any. -/
def okD (soft : Bool) (R : List (Res El)) (slots : List (AVal El)) (all : List Oper) (an : List Nat) (tr : List (Ent El)) : Bool :=
  (List.range all.length).all fun j => match all[j]?, tr[j]? with
    | some o, some e =>
      (o.after.toList.all fun d => !Region.binds .any d || decide (d.on < j)) && (e.upd.isEmpty || touches o.op) && (match o.dst with | some d => decide (d < lenA slots) | none => true) &&
      (List.range all.length).all fun i => i == j || match all[i]? with
        | some p =>
          (match o.dst, p.dst with | some d, some d' => decide (d ≠ d') | _, _ => true) &&
          (!turns e || !touches p.op || (natAt an j).testBit i || (natAt an i).testBit j || (soft && (match tr[i]? with | some q => softE p.op q.val | none => false) && vecTurns R e) || (match softL all an slots tr i p.op with | some r => spares e r | none => false))
        | none => true
    | _, _ => false

def finSlots : List Oper → List (Ent El) → List (AVal El) → List (AVal El)
  | o :: os, e :: es, l => finSlots os es (setT l o.dst e.val)
  | _, _, l => l
def finRes : List (Ent El) → List (Res El) → List (Res El)
  | [], R => R
  | e :: es, R => finRes es (updR R e.upd)

def aregionD (all : List Oper) (st : St El) : Tree (St El) :=
  (traceD c Γ all (ancs all) st all 0 (lenR st.res) []).bind fun tr =>
    if okD false st.res st.slots all (ancs all) tr = true then .leaf ⟨finSlots all tr st.slots, finRes tr st.res⟩
    else if okD true st.res st.slots all (ancs all) tr = true then .need (lens st.res tr) (.leaf ⟨finSlots all tr st.slots, finRes tr st.res⟩) else .fail
end defs

section basics
theorem natAt_eq (l : List Nat) (n : Nat) : natAt l n = l.getD n 0 := by
  induction l generalizing n with
  | nil => simp [natAt]
  | cons a l ih => cases n <;> simp [natAt, ih]

theorem ancOf_bit {prev : List Nat} {es : List Edge} {i : Nat} : (ancOf prev es).testBit i = true ↔ ∃ e ∈ es, Region.binds .any e = true ∧ (i = e.on ∨ (natAt prev e.on).testBit i = true) := by
  induction es with
  | nil => simp [ancOf]
  | cons e es ih =>
    simp only [ancOf]
    split
    · rename_i hb
      simp only [Nat.testBit_or, Nat.testBit_two_pow, Bool.or_eq_true, ih, decide_eq_true_eq]
      constructor
      · rintro ((h | h) | ⟨e', h1, h2, h3⟩)
        · exact ⟨e, List.mem_cons_self .., hb, .inl h.symm⟩
        · exact ⟨e, List.mem_cons_self .., hb, .inr h⟩
        · exact ⟨e', List.mem_cons_of_mem _ h1, h2, h3⟩
      · rintro ⟨e', h1, h2, h3⟩
        rcases List.mem_cons.1 h1 with rfl | h1
        · rcases h3 with h3 | h3
          · exact .inl (.inl h3.symm)
          · exact .inl (.inr h3)
        · exact .inr ⟨e', h1, h2, h3⟩
    · rename_i hb
      rw [ih]
      constructor
      · rintro ⟨e', h1, h2, h3⟩
        exact ⟨e', List.mem_cons_of_mem _ h1, h2, h3⟩
      · rintro ⟨e', h1, h2, h3⟩
        rcases List.mem_cons.1 h1 with rfl | h1
        · exact absurd h2 hb
        · exact ⟨e', h1, h2, h3⟩

theorem ancsFrom_spec (l : List Oper) (acc : List Nat) : ∃ r, ancsFrom l acc = acc ++ r ∧ r.length = l.length ∧ ∀ k o, l[k]? = some o → (acc ++ r).getD (acc.length + k) 0 = ancOf ((acc ++ r).take (acc.length + k)) o.after.toList := by
  induction l generalizing acc with
  | nil => exact ⟨[], by simp [ancsFrom], rfl, fun k o h => by simp at h⟩
  | cons o l ih =>
    obtain ⟨r, h1, h2, h3⟩ := ih (acc ++ [ancOf acc o.after.toList])
    refine ⟨ancOf acc o.after.toList :: r, by simp [ancsFrom, h1], by simp [h2], fun k o' hk => ?_⟩
    cases k with
    | zero =>
      simp at hk; subst hk
      simp [List.getD_eq_getElem?_getD]
    | succ k =>
      simp at hk
      have := h3 k o' hk
      simp only [List.append_assoc, List.singleton_append, List.length_append, List.length_singleton] at this
      rw [show acc.length + (k + 1) = acc.length + 1 + k from by omega]
      exact this

theorem ancs_bit {all : List Oper} {j : Nat} {o : Oper} (hj : all[j]? = some o) {i : Nat} : (natAt (ancs all) j).testBit i = true ↔ ∃ e ∈ o.after.toList, Region.binds .any e = true ∧ (i = e.on ∨ (e.on < j ∧ (natAt (ancs all) e.on).testBit i = true)) := by
  obtain ⟨r, h1, h2, h3⟩ := ancsFrom_spec all []
  have h4 := h3 j o hj
  simp only [List.nil_append, List.length_nil, Nat.zero_add] at h1 h4
  have hjl : j < r.length := by
    rcases Nat.lt_or_ge j all.length with h | h
    · omega
    · rw [List.getElem?_eq_none h] at hj; cases hj
  rw [natAt_eq]
  unfold ancs
  rw [h1, h4, ancOf_bit]
  have key : ∀ q, (natAt (r.take j) q).testBit i = true ↔ (q < j ∧ (natAt r q).testBit i = true) := by
    intro q
    rw [natAt_eq, natAt_eq, List.getD_eq_getElem?_getD, List.getElem?_take]
    split
    · rename_i hq
      rw [List.getD_eq_getElem?_getD]
      exact ⟨fun h => ⟨hq, h⟩, fun h => h.2⟩
    · rename_i hq
      simp [hq]
  simp only [key]

/-- A name that a list of turns mentions. -/
def Dom (us : List (Nat × Res El)) (r : Nat) : Prop := ∃ x, (r, x) ∈ us

theorem getR_updR_not {us : List (Nat × Res El)} {r : Nat} (h : ¬ Dom us r) (R : List (Res El)) : getR (updR R us) r = getR R r := by
  induction us generalizing R with
  | nil => rfl
  | cons u us ih =>
    obtain ⟨n, x⟩ := u
    simp only [updR]
    rw [ih (fun ⟨y, hy⟩ => h ⟨y, List.mem_cons_of_mem _ hy⟩), getR_setR, if_neg (fun e => h ⟨x, by rw [e]; exact List.mem_cons_self ..⟩)]

theorem getR_updR_congr {us : List (Nat × Res El)} {r : Nat} {R R' : List (Res El)} (h : getR R r = getR R' r) : getR (updR R us) r = getR (updR R' us) r := by
  induction us generalizing R R' with
  | nil => exact h
  | cons u us ih =>
    obtain ⟨n, x⟩ := u
    simp only [updR]
    refine ih ?_
    rw [getR_setR, getR_setR]
    split
    · rfl
    · exact h

theorem getR_updR_dom {us : List (Nat × Res El)} {r : Nat} (h : Dom us r) (R R' : List (Res El)) : getR (updR R us) r = getR (updR R' us) r := by
  induction us generalizing R R' with
  | nil => obtain ⟨x, hx⟩ := h; simp at hx
  | cons u us ih =>
    obtain ⟨n, x⟩ := u
    simp only [updR]
    by_cases hd : Dom us r
    · exact ih hd _ _
    · have hn : r = n := by
        obtain ⟨y, hy⟩ := h
        rcases List.mem_cons.1 hy with hy | hy
        · cases hy; rfl
        · exact absurd ⟨y, hy⟩ hd
      rw [getR_updR_not hd, getR_updR_not hd, getR_setR, getR_setR, if_pos hn, if_pos hn]

theorem resF_congr {m m' : Nat → Bool} {tr : List (Ent El)} {k r : Nat} {R R' : List (Res El)} (hm : ∀ i e, tr[i]? = some e → Dom e.upd r → m (k + i) = m' (k + i)) (hR : getR R r = getR R' r) :
    getR (resF m tr k R) r = getR (resF m' tr k R') r := by
  induction tr generalizing k R R' with
  | nil => exact hR
  | cons e es ih =>
    simp only [resF]
    refine ih (fun i e' he hd => ?_) ?_
    · have := hm (i + 1) e' (by simpa using he) hd
      rwa [show k + (i + 1) = k + 1 + i from by omega] at this
    · by_cases hd : Dom e.upd r
      · have := hm 0 e rfl hd
        simp only [Nat.add_zero] at this
        rw [this]
        split
        · exact getR_updR_congr hR
        · exact hR
      · split
        · rw [getR_updR_not hd]
          split
          · rw [getR_updR_not hd]; exact hR
          · exact hR
        · split
          · rw [getR_updR_not hd]; exact hR
          · exact hR

theorem resF_none {m : Nat → Bool} {tr : List (Ent El)} {k r : Nat} {R : List (Res El)} (hm : ∀ i e, tr[i]? = some e → Dom e.upd r → m (k + i) = false) : getR (resF m tr k R) r = getR R r := by
  rw [resF_congr (m' := fun _ => false) (R' := R) (fun i e h1 h2 => hm i e h1 h2) rfl]
  clear hm
  induction tr generalizing k with
  | nil => rfl
  | cons e es ih => simp only [resF]; exact ih

theorem resF_last {m : Nat → Bool} {tr : List (Ent El)} {k r j : Nat} {R : List (Res El)} {e : Ent El} (he : tr[j]? = some e) (hd : Dom e.upd r) (hj : m (k + j) = true)
    (hm : ∀ i e, tr[i]? = some e → j < i → Dom e.upd r → m (k + i) = false) (X : List (Res El)) : getR (resF m tr k R) r = getR (updR X e.upd) r := by
  induction tr generalizing k j R with
  | nil => simp at he
  | cons a es ih =>
    simp only [resF]
    cases j with
    | zero =>
      simp at he; subst he
      rw [resF_none (fun i e' h1 h2 => by
        have := hm (i + 1) e' (by simpa using h1) (by omega) h2
        rwa [show k + (i + 1) = k + 1 + i from by omega] at this)]
      simp only [Nat.add_zero] at hj
      rw [if_pos hj]
      exact getR_updR_dom hd _ _
    | succ j =>
      refine ih (by simpa using he) (by rwa [show k + (j + 1) = k + 1 + j from by omega] at hj) (fun i e' h1 h2 h3 => ?_)
      have := hm (i + 1) e' (by simpa using h1) (by omega) h3
      rwa [show k + (i + 1) = k + 1 + i from by omega] at this

theorem resF_take {m : Nat → Bool} {tr : List (Ent El)} {j r : Nat} {R : List (Res El)} (hm : ∀ i, j ≤ i → m i = false) : getR (resF m (tr.take j) 0 R) r = getR (resF m tr 0 R) r := by
  have key : ∀ (tr : List (Ent El)) (k j : Nat) (R : List (Res El)), (∀ i, k + j ≤ i → m i = false) → getR (resF m (tr.take j) k R) r = getR (resF m tr k R) r := by
    intro tr
    induction tr with
    | nil => intro k j R _; simp
    | cons e es ih =>
      intro k j R h
      cases j with
      | zero =>
        simp only [List.take_zero]
        exact (resF_none (fun i e' _ _ => h _ (by omega))).symm
      | succ j =>
        simp only [List.take_succ_cons, resF]
        exact ih (k + 1) j _ (fun i hi => h i (by omega))
  exact key tr 0 j R (by simpa using hm)

theorem maxUpd_spec (us : List (Nat × Res El)) (m : Nat) : m ≤ maxUpd m us ∧ ∀ r, Dom us r → r < maxUpd m us := by
  induction us generalizing m with
  | nil => exact ⟨Nat.le_refl _, fun r ⟨x, hx⟩ => by simp at hx⟩
  | cons u us ih =>
    obtain ⟨n, x⟩ := u
    simp only [maxUpd]
    obtain ⟨h1, h2⟩ := ih (if n < m then m else n + 1)
    refine ⟨Nat.le_trans (by split <;> omega) h1, fun r ⟨y, hy⟩ => ?_⟩
    rcases List.mem_cons.1 hy with hy | hy
    · cases hy
      refine Nat.lt_of_lt_of_le ?_ h1
      split <;> omega
    · exact h2 r ⟨y, hy⟩

theorem getR_ge {R : List (Res El)} {r : Nat} (h : lenR R ≤ r) : getR R r = .dead := by
  induction R generalizing r with
  | nil => rfl
  | cons a l ih =>
    cases r with
    | zero => simp [lenR] at h
    | succ r => exact ih (by simp [lenR] at h; omega)

theorem isDead_iff {x : Res El} : isDead x = false ↔ x ≠ .dead := by cases x <;> simp [isDead]

theorem updOk_spec {R : List (Res El)} {base : Nat} {us : List (Nat × Res El)} (h : updOk R base us = true) {r : Nat} (hd : Dom us r) : base ≤ r ∨ getR R r ≠ .dead := by
  induction us with
  | nil => obtain ⟨x, hx⟩ := hd; simp at hx
  | cons u us ih =>
    obtain ⟨n, x⟩ := u
    simp only [updOk, Bool.and_eq_true, Bool.or_eq_true, decide_eq_true_eq, Bool.not_eq_true', isDead_iff] at h
    obtain ⟨y, hy⟩ := hd
    rcases List.mem_cons.1 hy with hy | hy
    · cases hy; exact h.1
    · exact ih h.2 ⟨y, hy⟩
end basics
end Go.Ax
