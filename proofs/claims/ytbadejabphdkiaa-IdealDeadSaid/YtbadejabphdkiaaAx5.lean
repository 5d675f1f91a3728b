/- A verified symbolic executor, part 5: arithmetic, comparisons, conversions, fields, indexes, slicing. Over any program; the facts on its types are given with it. -/
import Derived.Test.YtbadejabphdkiaaAx4
import Derived.Laws.Cover3
set_option linter.unusedVariables false
set_option linter.unusedSimpArgs false
namespace Go.Ax
variable {El : TypeId → Type}

section defs
variable (c : Cx El) (R : List (Res El))

def aint (op : BinOp) (k : IntKind) (x y : Int) : Tree (AVal El) :=
  match op with
  | .add => .leaf (.int k (k.wrap (x + y)))
  | .sub => .leaf (.int k (k.wrap (x - y)))
  | .mul => .leaf (.int k (k.wrap (x * y)))
  | .quo => .need (y ≠ 0) (.leaf (.int k (k.wrap (x.tdiv y))))
  | .rem => .need (y ≠ 0) (.leaf (.int k (x.tmod y)))
  | .and => .leaf (.int k (Go.bits .and k x y))
  | .or => .leaf (.int k (Go.bits .or k x y))
  | .xor => .leaf (.int k (Go.bits .xor k x y))
  | .eql => .leaf (.bool (x == y))
  | .neq => .leaf (.bool (x != y))
  | .lss => .leaf (.bool (decide (x < y)))
  | .leq => .leaf (.bool (decide (x ≤ y)))
  | .gtr => .leaf (.bool (decide (x > y)))
  | .geq => .leaf (.bool (decide (x ≥ y)))
  | _ => .fail

/-- A remainder; by three, case by case. -/
def remT (sp : Bool) (k : IntKind) (x y : Int) : Tree (AVal El) := match sp with
  | false => aint .rem k x y
  | true => match decide (y = 3) with
    | false => aint .rem k x y
    | true => .need (y ≠ 0) (.node (decide (x.tmod 3 = 0)) (.leaf (.int k 0)) (.node (decide (x.tmod 3 = 1)) (.leaf (.int k 1)) (.need (x.tmod 3 = 2) (.leaf (.int k 2)))))

def eqCells : List (AVal El) → List (AVal El) → Option Bool
  | [], [] => some true
  | .int k x :: as, .int k' y :: bs => if k = k' then (eqCells as bs).map fun r => (x == y) && r else none
  | .bool x :: as, .bool y :: bs => (eqCells as bs).map fun r => (x == y) && r
  | _, _ => none

def shpC : List (AVal El) → List Bool → Bool
  | [], [] => true
  | .int _ _ :: as, true :: s => shpC as s
  | .bool _ :: as, false :: s => shpC as s
  | _, _ => false

def isBoolT (P : Program) (t : TypeId) : Bool := match P.underlying t with | some .bool => true | _ => false
def isPtrT (P : Program) (t : TypeId) : Bool := match P.underlying t with | some (.pointer _) => true | _ => false
def isSliceT (P : Program) (t : TypeId) : Bool := match P.underlying t with | some (.slice _) => true | _ => false
def isMapT (P : Program) (t : TypeId) : Bool := match P.underlying t with | some (.map _ _) => true | _ => false

def aeq (t : TypeId) (a b : AVal El) : Option Bool :=
  match a, b with
  | .bool x, .bool y => if isBoolT c.P t then some (x == y) else none
  | .agg cs, .agg ds => match c.eqT t with
    | some s => if shpC cs s = true then eqCells cs ds else none
    | none => none
  | .ptr _ _, .nilp | .eptr _ _ _ _, .nilp | .lptr _ _ _ _ _, .nilp => if isPtrT c.P t then some false else none
  | .nilp, .nilp => if isPtrT c.P t then some true else none
  | .nils, .nils => if isSliceT c.P t then some true else none
  | .nilm, .nilm => if isMapT c.P t then some true else none
  | .mapr _, .nilm => if isMapT c.P t then some false else none
  | _, _ => none

/-- A list against nil: where it is empty, that is not known. -/
def nilq (t : TypeId) (a b : AVal El) : Option Bool :=
  match a, b with
  | .list _ xs, .nils => match isSliceT c.P t with
    | true => some xs.isEmpty
    | false => none
  | _, _ => none

def aBin (op : BinOp) (t : TypeId) (a b : AVal El) : Tree (AVal El) :=
  match a, b with
  | .int k x, .int k' y =>
    match op with
    | .shl => .need (0 ≤ y) (.leaf (.int k (k.wrap (x * 2 ^ (min y.toNat k.bits)))))
    | .shr => .need (0 ≤ y) (.leaf (.int k (x.fdiv (2 ^ (min y.toNat k.bits)))))
    | .rem => if k = k' then remT c.split3 k x y else .fail
    | op => if k = k' then aint op k x y else .fail
  | a, b =>
    match op with
    | .eql => match aeq c t a b with | some r => .leaf (.bool r) | none => match nilq c t a b with | some e => .node e (.leaf .anyb) (.leaf (.bool false)) | none => .fail
    | .neq => match aeq c t a b with | some r => .leaf (.bool (!r)) | none => match nilq c t a b with | some e => .node e (.leaf .anyb) (.leaf (.bool true)) | none => .fail
    | _ => .fail

def aUn (op : UnOp) (a : AVal El) : Tree (AVal El) :=
  match op, a with
  | .not, .bool b => .leaf (.bool (!b))
  | .neg, .int k n => .leaf (.int k (k.wrap (0 - n)))
  | _, _ => .fail

def aConv (src dst : TypeId) (a : AVal El) : Tree (AVal El) :=
  match a, c.P.underlying src, c.P.underlying dst with
  | .int _ n, some _, some (.int k) => .leaf (.int k (k.wrap n))
  | _, _, _ => .fail

def fieldOf (s : TypeId) (f : Nat) : Option Nat :=
  match c.P.underlying s with
  | some (.struct fs) => match fs.toList[f]? with
    | some fl => match (c.P.info? fl.type).map (·.size) with
      | some (_ + 1) => some fl.offset
      | _ => none
    | none => none
  | _ => none

def aField (s : TypeId) (a : AVal El) (f : Nat) : Tree (AVal El) :=
  match fieldOf c s f with
  | some o => match a with
    | .ptr r off => .leaf (.ptr r (off + o))
    | .eptr r sz i off => .leaf (.eptr r sz i (off + o))
    | .lptr t xs sz i off => .leaf (.lptr t xs sz i (off + o))
    | _ => .fail
  | none => .fail

/-- One of the numbers below 'n'. -/
def splitIdx {X : Type} (i : Int) (f : Nat → Tree X) : Nat → Nat → Tree X
  | 0, _ => .fail
  | n + 1, j => .node (decide (i = (j : Int))) (f j) (splitIdx i f n (j + 1))

def aIndexAddr (t : TypeId) (a ix : AVal El) : Tree (AVal El) :=
  match ix, c.P.underlying t with
  | .int _ i, some (.array n e) => match a, (c.P.info? e).map (·.size) with
    | .ptr r off, some s => splitIdx i (fun j => .leaf (.ptr r (off + j * s))) n 0
    | _, _ => .fail
  | .int _ i, some (.slice e) => match a with
    | .list t' xs => if t' = e ∧ c.known e = true then .need (0 ≤ i ∧ i < xs.length) (.leaf (.lptr t' xs (c.L.sz t') i.toNat 0)) else .fail
    | .vec r => match getR R r with
      | .vec t' xs => if t' = e ∧ c.known e = true then .need (0 ≤ i ∧ i < xs.length) (.leaf (.eptr r (c.L.sz t') i.toNat 0)) else .fail
      | _ => .fail
    | .cs r off n => match (c.P.info? e).map (·.size) with
      | some s => splitIdx i (fun j => .leaf (.ptr r (off + j * s))) n 0
      | none => .fail
    | _ => .fail
  | _, _ => .fail

def aIndex (t : TypeId) (a ix : AVal El) : Tree (AVal El) :=
  match ix, c.P.underlying t, a with
  | .int _ i, some (.array n e), .agg cs => match (c.P.info? e).map (·.size) with
    | some s => splitIdx i (fun j => aPart c e (dropF (j * s) cs)) n 0
    | none => .fail
  | _, _, _ => .fail
end defs

section proofs
variable {I : Nat → Prop} {E : Env} {R : List (Res El)} {w : World} {c : Cx El} {L : Lay El}

theorem eqCells_ok {cs ds : List (AVal El)} {vs us : List Value} {r : Bool} (h : eqCells cs ds = some r) (hc : Reps L I w E cs vs) (hd : Reps L I w E ds us) : eqVals vs us = some r := by
  induction cs generalizing ds vs us r with
  | nil =>
    cases ds with
    | nil => rw [hc.inv_nil, hd.inv_nil]; simpa [eqCells, eqVals] using h
    | cons d ds => simp [eqCells] at h
  | cons a cs ih =>
    cases ds with
    | nil => cases a <;> simp [eqCells] at h
    | cons d ds =>
      obtain ⟨v, vs', rfl, h1, h2⟩ := hc.inv_cons
      obtain ⟨u, us', rfl, h3, h4⟩ := hd.inv_cons
      unfold eqCells at h
      split at h <;> try (simp at *; done)
      · rename_i k x as k' y bs e1 e2
        simp only [List.cons.injEq] at e1 e2
        obtain ⟨rfl, rfl⟩ := e1
        obtain ⟨rfl, rfl⟩ := e2
        cases h1; cases h3
        split at h
        · rename_i hk
          simp only [Option.map_eq_some_iff] at h
          obtain ⟨r', g1, g2⟩ := h
          simp only [eqVals, if_pos hk, ih g1 h2 h4, Option.map_some, g2]
        · cases h
      · rename_i x as y bs e1 e2
        simp only [List.cons.injEq] at e1 e2
        obtain ⟨rfl, rfl⟩ := e1
        obtain ⟨rfl, rfl⟩ := e2
        cases h1; cases h3
        simp only [Option.map_eq_some_iff] at h
        obtain ⟨r', g1, g2⟩ := h
        simp only [eqVals, ih g1 h2 h4, Option.map_some, g2]

theorem run_equal_of {P : Program} {t : TypeId} {a b : Value} {r : Bool} (h : ∀ d, (Op.equalIn (d + 1) t a b).run P w = .ok r w) : (Op.equal t a b).run P w = .ok r w := h 9999

theorem run_eq_of {P : Program} {t : TypeId} {a b : Value} {r : Bool} (hb : (Op.equal t a b).run P w = .ok r w)
    (h1 : ∀ op x y, eqGuard op t x y a b = pure ()) (h2 : binOp .eql t a b = (do pure (.bool (← Op.equal t a b)))) (h3 : binOp .neq t a b = (do pure (.bool (!(← Op.equal t a b))))) (x y : Operand) :
    ((do eqGuard .eql t x y a b; binOp .eql t a b) : Sem Value).run P w = .ok (.bool r) w ∧ ((do eqGuard .neq t x y a b; binOp .neq t a b) : Sem Value).run P w = .ok (.bool (!r)) w := by
  constructor
  · rw [h1, h2]; simp [hb]
  · rw [h1, h3]; simp [hb]

theorem shpC_ok {cs : List (AVal El)} {vs : List Value} {s : List Bool} (h : shpC cs s = true) (hc : Reps L I w E cs vs) : shpV vs s = true := by
  induction cs generalizing vs s with
  | nil => rw [hc.inv_nil]; cases s <;> simp [shpC] at h ⊢; rfl
  | cons a cs ih =>
    obtain ⟨v, vs', rfl, h1, h2⟩ := hc.inv_cons
    unfold shpC at h
    split at h
    · rename_i e; cases e
    · rename_i e; cases e; cases h1; simp only [shpV]; exact ih h h2
    · rename_i e; cases e; cases h1; simp only [shpV]; exact ih h h2
    · cases h

theorem aeq_ok {t : TypeId} {a b : AVal El} {va vb : Value} {r : Bool} (ha : Rep c.L I w E a va) (hb : Rep c.L I w E b vb) (h : aeq c t a b = some r) (x y : Operand) :
    ((do eqGuard .eql t x y va vb; binOp .eql t va vb) : Sem Value).run c.P w = .ok (.bool r) w ∧ ((do eqGuard .neq t x y va vb; binOp .neq t va vb) : Sem Value).run c.P w = .ok (.bool (!r)) w := by
  have hptr : isPtrT c.P t = true → ∃ e, c.P.underlying t = some (.pointer e) := by
    intro h
    unfold isPtrT at h
    split at h
    · rename_i e he; exact ⟨e, he⟩
    · cases h
  have hmap : isMapT c.P t = true → ∃ e f, c.P.underlying t = some (.map e f) := by
    intro h
    unfold isMapT at h
    split at h
    · rename_i e f he; exact ⟨e, f, he⟩
    · cases h
  have ptrNil : ∀ p : Addr, isPtrT c.P t = true → va = .pointer (some p) → vb = .pointer none → r = false →
      ((do eqGuard .eql t x y va vb; binOp .eql t va vb) : Sem Value).run c.P w = .ok (.bool r) w ∧ ((do eqGuard .neq t x y va vb; binOp .neq t va vb) : Sem Value).run c.P w = .ok (.bool (!r)) w := by
    rintro p hp rfl rfl rfl
    obtain ⟨e, he⟩ := hptr hp
    exact run_eq_of (run_equal_of fun d => by simp [Op.equalIn, run_underlying he]) (fun op x y => by cases op <;> rfl) rfl rfl x y
  unfold aeq at h
  split at h
  · cases ha; cases hb
    split at h
    · rename_i hbt
      unfold isBoolT at hbt
      split at hbt
      · rename_i hu
        simp only [Option.some.injEq] at h; subst h
        exact run_eq_of (run_equal_of fun d => by simp [Op.equalIn, run_underlying hu]) (fun op x y => by cases op <;> rfl) rfl rfl x y
      · cases hbt
    · cases h
  · rename_i cs ds
    cases ha with
    | agg hl hh h1 =>
      rename_i vs
      cases hb with
      | agg hl' hh' h1' =>
        rename_i us
        split at h
        · rename_i s hs
          split at h
          · rename_i hq
            have hv := eqCells_ok h ⟨hl, hh⟩ ⟨hl', hh'⟩
            obtain ⟨k1, k2, k3, k4⟩ := c.eq_ok t s hs vs us r hv (shpC_ok hq ⟨hl, hh⟩) w x y
            exact ⟨by simp [k1, k3], by simp [k2, k4]⟩
          · cases h
        · cases h
  · cases hb
    split at h
    · rename_i hp
      simp only [Option.some.injEq] at h
      cases ha; exact ptrNil _ hp rfl rfl h.symm
    · cases h
  · cases hb
    split at h
    · rename_i hp
      simp only [Option.some.injEq] at h
      cases ha; exact ptrNil _ hp rfl rfl h.symm
    · cases h
  · cases hb
    split at h
    · rename_i hp
      simp only [Option.some.injEq] at h
      cases ha; exact ptrNil _ hp rfl rfl h.symm
    · cases h
  · cases ha; cases hb
    split at h
    · rename_i hp
      obtain ⟨e, he⟩ := hptr hp
      simp only [Option.some.injEq] at h; subst h
      exact run_eq_of (run_equal_of fun d => by simp [Op.equalIn, run_underlying he]) (fun op x y => by cases op <;> rfl) rfl rfl x y
    · cases h
  · cases ha; cases hb
    split at h
    · rename_i hp
      unfold isSliceT at hp
      split at hp
      · rename_i e he
        simp only [Option.some.injEq] at h; subst h
        exact run_eq_of (run_equal_slice_nil w t e _ _ _ he) (fun op x y => by cases op <;> rfl) rfl rfl x y
      · cases hp
    · cases h
  · cases ha; cases hb
    split at h
    · rename_i hp
      obtain ⟨e, f, he⟩ := hmap hp
      simp only [Option.some.injEq] at h; subst h
      exact run_eq_of (run_equal_of fun d => by simp [Op.equalIn, run_underlying he]) (fun op x y => by cases op <;> rfl) rfl rfl x y
    · cases h
  · cases ha; cases hb
    split at h
    · rename_i hp
      obtain ⟨e, f, he⟩ := hmap hp
      simp only [Option.some.injEq] at h; subst h
      exact run_eq_of (run_equal_of fun d => by simp [Op.equalIn, run_underlying he]) (fun op x y => by cases op <;> rfl) rfl rfl x y
    · cases h
  · cases h

theorem aint_ok {op : BinOp} {k : IntKind} {n m : Int} {r : AVal El} (ho : (aint op k n m).Out r) (t : TypeId) : ∃ v, (binOp op t (.int k n) (.int k m)).run c.P w = .ok v w ∧ Rep L I w E r v := by
  cases op <;> simp only [aint, Tree.Out] at ho
  case add => subst ho; exact ⟨_, by rw [binOp_add]; rfl, .int⟩
  case sub => subst ho; exact ⟨_, by rw [binOp_sub]; rfl, .int⟩
  case mul => subst ho; exact ⟨_, by rw [binOp_mul]; rfl, .int⟩
  case quo =>
    obtain ⟨h0, e⟩ := ho; subst e
    exact ⟨.int k (k.wrap (n.tdiv m)), by rw [binOp_quo]; simp [Op.intDiv, h0], .int⟩
  case rem =>
    obtain ⟨h0, e⟩ := ho; subst e
    exact ⟨.int k (n.tmod m), by rw [binOp_rem]; simp [Op.intDiv, h0], .int⟩
  case and => subst ho; exact ⟨_, by rw [binOp_and]; rfl, .int⟩
  case or => subst ho; exact ⟨_, by rw [binOp_or]; rfl, .int⟩
  case xor => subst ho; exact ⟨_, by rw [binOp_xor]; rfl, .int⟩
  case eql => subst ho; exact ⟨_, by rw [binOp_eql]; rfl, .bool⟩
  case neq => subst ho; exact ⟨_, by rw [binOp_neq]; rfl, .bool⟩
  case lss => subst ho; exact ⟨_, by rw [binOp_lss]; rfl, .bool⟩
  case leq => subst ho; exact ⟨_, by rw [binOp_leq]; rfl, .bool⟩
  case gtr => subst ho; exact ⟨_, by rw [binOp_gtr]; rfl, .bool⟩
  case geq => subst ho; exact ⟨_, by rw [binOp_geq]; rfl, .bool⟩

theorem remT_ok {sp : Bool} {k : IntKind} {n m : Int} {r : AVal El} (ho : (remT sp k n m).Out r) (t : TypeId) : ∃ v, (binOp .rem t (.int k n) (.int k m)).run c.P w = .ok v w ∧ Rep L I w E r v := by
  unfold remT at ho
  split at ho
  · exact aint_ok ho t
  · split at ho
    · exact aint_ok ho t
    · rename_i hy
      have hy : m = 3 := of_decide_eq_true hy
      subst hy
      simp only [Tree.Out] at ho
      have key : ∃ v, (binOp .rem t (.int k n) (.int k 3)).run c.P w = .ok v w ∧ Rep L I w E (.int k (n.tmod 3)) v := ⟨.int k (n.tmod 3), by rw [binOp_rem]; simp [Op.intDiv], .int⟩
      rcases ho with ⟨_, ⟨h0, rfl⟩ | ⟨_, ⟨h0, rfl⟩ | ⟨_, h0, rfl⟩⟩⟩
      · rw [of_decide_eq_true h0] at key; exact key
      · rw [of_decide_eq_true h0] at key; exact key
      · rw [h0] at key; exact key

theorem nilq_ok {t : TypeId} {a b : AVal El} {va vb : Value} {r : Bool} (ha : Rep c.L I w E a va) (hb : Rep c.L I w E b vb) (h : nilq c t a b = some r) (x y : Operand) :
    ∃ q : Bool, (r = false → q = false) ∧ ((do eqGuard .eql t x y va vb; binOp .eql t va vb) : Sem Value).run c.P w = .ok (.bool q) w ∧
    ((do eqGuard .neq t x y va vb; binOp .neq t va vb) : Sem Value).run c.P w = .ok (.bool (!q)) w := by
  unfold nilq at h
  split at h
  · split at h
    · rename_i hs
      unfold isSliceT at hs
      split at hs
      · rename_i e hu
        simp only [Option.some.injEq] at h; subst h
        cases hb
        cases ha with
        | listNil => exact ⟨_, fun h => by simp at h, run_eq_of (run_equal_slice_nil w t e _ _ _ hu) (fun op x y => by cases op <;> rfl) rfl rfl x y⟩
        | list => exact ⟨_, fun _ => rfl, run_eq_of (run_equal_slice_nil w t e _ _ _ hu) (fun op x y => by cases op <;> rfl) rfl rfl x y⟩
      · cases hs
    · cases h
  · cases h

theorem aBin_ok {op : BinOp} {t : TypeId} {a b r : AVal El} {va vb : Value} (ha : Rep c.L I w E a va) (hb : Rep c.L I w E b vb) (ho : (aBin c op t a b).Out r) (x y : Operand) :
    ∃ v, ((do eqGuard op t x y va vb; binOp op t va vb) : Sem Value).run c.P w = .ok v w ∧ Rep c.L I w E r v := by
  unfold aBin at ho
  split at ho
  · rename_i k n k' m
    cases ha; cases hb
    rw [show ∀ s : Sem Value, (do eqGuard op t x y (.int k n) (.int k' m); s) = s from fun s => by rw [eqGuard_at_int]; rfl]
    split at ho
    · simp only [Tree.Out] at ho
      obtain ⟨h0, rfl⟩ := ho
      exact ⟨.int k (k.wrap (n * 2 ^ (min m.toNat k.bits))), by rw [binOp_shl]; simp [Op.shift, Int.not_lt.2 h0], .int⟩
    · simp only [Tree.Out] at ho
      obtain ⟨h0, rfl⟩ := ho
      exact ⟨.int k (n.fdiv (2 ^ (min m.toNat k.bits))), by rw [binOp_shr]; simp [Op.shift, Int.not_lt.2 h0], .int⟩
    · split at ho
      · rename_i hk
        subst hk
        exact remT_ok ho t
      · exact ho.elim
    · split at ho
      · rename_i hk
        subst hk
        exact aint_ok ho t
      · exact ho.elim
  · split at ho
    · split at ho
      · rename_i r' hr
        simp only [Tree.Out] at ho; subst ho
        exact ⟨_, (aeq_ok ha hb hr x y).1, .bool⟩
      · split at ho
        · rename_i e hq
          obtain ⟨q, g1, g2, g3⟩ := nilq_ok ha hb hq x y
          simp only [Tree.Out] at ho
          rcases ho with ⟨he, rfl⟩ | ⟨he, rfl⟩
          · exact ⟨_, g2, .anyb⟩
          · rw [g1 he] at g2; exact ⟨_, g2, .bool⟩
        · exact ho.elim
    · split at ho
      · rename_i r' hr
        simp only [Tree.Out] at ho; subst ho
        exact ⟨_, (aeq_ok ha hb hr x y).2, .bool⟩
      · split at ho
        · rename_i e hq
          obtain ⟨q, g1, g2, g3⟩ := nilq_ok ha hb hq x y
          simp only [Tree.Out] at ho
          rcases ho with ⟨he, rfl⟩ | ⟨he, rfl⟩
          · exact ⟨_, g3, .anyb⟩
          · rw [g1 he] at g3; exact ⟨_, g3, .bool⟩
        · exact ho.elim
    · exact ho.elim

theorem aUn_ok {op : UnOp} {a r : AVal El} {va : Value} (ha : Rep c.L I w E a va) (ho : (aUn op a).Out r) : ∃ v, (Op.unary op va).run c.P w = .ok v w ∧ Rep c.L I w E r v := by
  unfold aUn at ho
  split at ho
  · simp only [Tree.Out] at ho; subst ho; cases ha
    exact ⟨_, rfl, .bool⟩
  · simp only [Tree.Out] at ho; subst ho; cases ha
    exact ⟨_, rfl, .int⟩
  · exact ho.elim

theorem aConv_ok {src dst : TypeId} {a r : AVal El} {va : Value} (ha : Rep c.L I w E a va) (ho : (aConv c src dst a).Out r) : ∃ v, (convert src dst va).run c.P w = .ok v w ∧ Rep c.L I w E r v := by
  unfold aConv at ho
  split at ho
  · rename_i k' n d k h1 h2
    simp only [Tree.Out] at ho; subst ho; cases ha
    exact ⟨.int k (k.wrap n), by simp [convert, run_underlying h1, run_underlying h2, Conv.intToInt], .int⟩
  · exact ho.elim

theorem aField_ok {s : TypeId} {a r : AVal El} {f : Nat} {va : Value} (ha : Rep c.L I w E a va) (ho : (aField c s a f).Out r) : ∃ v, (Instr.fieldAt s va f).run c.P w = .ok v w ∧ Rep c.L I w E r v := by
  unfold aField at ho
  split at ho
  · rename_i o hf
    have key : ∀ b off, va = .pointer (some ⟨b, off, none⟩) → (Instr.fieldAt s va f).run c.P w = .ok (.pointer (some ⟨b, off + o, none⟩)) w := by
      rintro b off rfl
      unfold fieldOf at hf
      split at hf
      · rename_i fs hu
        split at hf
        · rename_i fl hfl
          split at hf
          · rename_i m hm
            simp only [Option.some.injEq] at hf; subst hf
            have hfl' : fs[f]? = some fl := by simpa using hfl
            simp [Instr.fieldAt, run_underlying hu, hfl', Instr.sureAddr, fieldPlace, info_size hm, Addr.add_lit]
          · cases hf
        · cases hf
      · cases hf
    split at ho <;> simp only [Tree.Out] at ho
    · subst ho; cases ha with
      | ptr he => exact ⟨_, key _ _ rfl, .ptr he⟩
    · subst ho; cases ha with
      | eptr he => exact ⟨_, key _ _ rfl, by rw [Nat.add_assoc]; exact .eptr he⟩
    · subst ho; cases ha with
      | lptr h1 h2 h3 h4 h5 h6 => exact ⟨_, key _ _ rfl, by rw [Nat.add_assoc _ _ o]; exact .lptr h1 h2 h3 h4 h5 h6⟩
  · exact ho.elim

theorem splitIdx_out {X : Type} {i : Int} {f : Nat → Tree X} {n j : Nat} {x : X} (ho : (splitIdx i f n j).Out x) : ∃ m : Nat, j ≤ m ∧ m < j + n ∧ i = m ∧ (f m).Out x := by
  induction n generalizing j with
  | zero => exact ho.elim
  | succ n ih =>
    rcases ho with ⟨hb, ho⟩ | ⟨hb, ho⟩
    · exact ⟨j, Nat.le_refl _, by omega, of_decide_eq_true hb, ho⟩
    · obtain ⟨m, h1, h2, h3, h4⟩ := ih ho
      exact ⟨m, by omega, by omega, h3, h4⟩

theorem aIndexAddr_ok (h : HR c.L I w E R) {t : TypeId} {a ix r : AVal El} {va vx : Value} (ha : Rep c.L I w E a va) (hx : Rep c.L I w E ix vx) (ho : (aIndexAddr c R t a ix).Out r) :
    ∃ v, (Instr.indexAt t va vx).run c.P w = .ok v w ∧ Rep c.L I w E r v := by
  unfold aIndexAddr at ho
  split at ho
  · rename_i k i n e hu
    cases hx
    split at ho
    · rename_i r' off s hs
      obtain ⟨m, _, hm, hmi, ho'⟩ := splitIdx_out ho
      subst hmi
      clear ho
      have ho := ho'
      clear ho'
      simp only [Tree.Out] at ho; subst ho
      cases ha with
      | ptr he =>
        refine ⟨_, ?_, .ptr he⟩
        have : m < n := by omega
        simp [Instr.indexAt, run_underlying hu, asIntOf, Instr.sureAddr, this, info_size hs, Addr.add_lit]
    · exact ho.elim
  · rename_i k i e hu
    cases hx
    split at ho
    · rename_i t' xs
      split at ho
      · rename_i hk
        obtain ⟨rfl, hk⟩ := hk
        simp only [Tree.Out] at ho
        obtain ⟨⟨h0, hlt⟩, rfl⟩ := ho
        have hsz := (c.known_ok _ hk).1
        cases ha with
        | listNil => simp at hlt; omega
        | list hI hb hlen hcap vals hc hrep =>
          rename_i b o len cap cells ty fz
          subst hlen
          refine ⟨_, ?_, .lptr (by omega) hI hb vals hc hrep⟩
          simp [Instr.indexAt, run_underlying hu, asIntOf, h0, hlt, info_size hsz, Addr.add_lit]
      · exact ho.elim
    · rename_i r'
      split at ho
      · rename_i t' xs hg
        split at ho
        · rename_i hk
          obtain ⟨rfl, hk⟩ := hk
          simp only [Tree.Out] at ho
          obtain ⟨⟨h0, hlt⟩, rfl⟩ := ho
          have hsz := (c.known_ok _ hk).1
          obtain ⟨e, h1, h2⟩ := h.res r' (by rw [hg]; simp)
          rw [hg] at h2
          cases ha with
          | vec he hone =>
            rw [h1] at he; cases he
            rcases h2 with ⟨_, rfl, _⟩ | ⟨b', cap, cells, vals, k1, k2, k3, k4, k5, k6, k7⟩
            · simp at hlt; omega
            · rw [k2]
              obtain ⟨blk, raw⟩ := e
              simp only at k1 k2
              subst k1
              refine ⟨_, ?_, .eptr h1⟩
              simp [Instr.indexAt, run_underlying hu, asIntOf, h0, hlt, info_size hsz, Addr.add_lit]
        · exact ho.elim
      · exact ho.elim
    · rename_i r' off n
      split at ho
      · rename_i s hs
        obtain ⟨m, _, hm, hmi, ho'⟩ := splitIdx_out ho
        subst hmi
        clear ho
        have ho := ho'
        clear ho'
        simp only [Tree.Out] at ho; subst ho
        cases ha with
        | cs he =>
          refine ⟨_, ?_, .ptr he⟩
          have : m < n := by omega
          simp [Instr.indexAt, run_underlying hu, asIntOf, this, info_size hs, Addr.add_lit]
      · exact ho.elim
    · exact ho.elim
  · exact ho.elim

theorem aPart_ok {t : TypeId} {cs : List (AVal El)} {vs : List Value} {off : Nat} {x : AVal El} (hr : Reps c.L I w E cs vs) (h1 : ∀ v ∈ vs, v.oneCell' = true) (ho : (aPart c t (dropF off cs)).Out x) :
    ∃ u, (part t vs.toArray off).run c.P w = .ok u w ∧ Rep c.L I w E x u := by
  rw [dropF_eq] at ho
  unfold aPart at ho
  split at ho
  · rename_i n hagg hn
    split at ho
    · rename_i l hl
      simp only [Tree.Out] at ho; subst ho
      obtain ⟨rfl, hle⟩ := takeF_some hl
      refine ⟨.agg ((vs.drop off).take n).toArray, ?_, ((hr.drop off).take n).agg (fun v hv => h1 v (List.mem_of_mem_drop (List.mem_of_mem_take hv)))⟩
      simp [part, run_isAggT hagg, info_size hn, List.extract_eq_take_drop]
    · exact ho.elim
  · rename_i n hagg hn
    split at ho
    · rename_i a' rest hd
      simp only [Tree.Out] at ho; subst ho
      have hdr := hr.drop off
      rw [hd] at hdr
      obtain ⟨u, us, hu, g1, g2⟩ := hdr.inv_cons
      refine ⟨u, ?_, g1⟩
      have : vs[off]? = some u := by
        have : (vs.drop off)[0]? = some u := by rw [hu]; rfl
        simpa using this
      simp [part, run_isAggT hagg, this]
    · exact ho.elim
  · exact ho.elim

theorem aIndex_ok {t : TypeId} {a ix r : AVal El} {va vx : Value} (ha : Rep c.L I w E a va) (hx : Rep c.L I w E ix vx) (ho : (aIndex c t a ix).Out r) :
    ∃ v, (Instr.index t va vx).run c.P w = .ok v w ∧ Rep c.L I w E r v := by
  unfold aIndex at ho
  split at ho
  · rename_i k i n e cs hu
    cases hx
    cases ha with
    | agg hl hh h1 =>
      rename_i vs
      split at ho
      · rename_i s hs
        obtain ⟨m, _, hm, hmi, ho'⟩ := splitIdx_out ho
        subst hmi
        clear ho
        have ho := ho'
        clear ho'
        obtain ⟨u, g1, g2⟩ := aPart_ok ⟨hl, hh⟩ h1 ho
        refine ⟨u, ?_, g2⟩
        have : m < n := by omega
        simp [Instr.index, run_underlying hu, asIntOf, this, info_size hs, g1]
      · exact ho.elim
  · exact ho.elim
end proofs
end Go.Ax
