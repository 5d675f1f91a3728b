/- A verified symbolic executor, part 16: loops that are told by what holds at their head. Over any program; the facts on its types are given with it. -/
import Derived.Test.YtbadejabphdkiaaAx15
set_option linter.unusedVariables false
set_option linter.unusedSimpArgs false
namespace Go.Ax
variable {El : TypeId → Type}

mutual
/-- All names are below 'n'. -/
def refsB (n : Nat) : AVal El → Bool
  | .ptr r _ => decide (r < n)
  | .eptr r _ _ _ => decide (r < n)
  | .cs r _ _ => decide (r < n)
  | .vec r => decide (r < n)
  | .mapr r => decide (r < n)
  | .fn _ l => refsL n l
  | .agg l => refsL n l
  | .tup l => refsL n l
  | _ => true
def refsL (n : Nat) : List (AVal El) → Bool
  | [] => true
  | a :: l => refsB n a && refsL n l
end
def refsR (n : Nat) : List (Res El) → Bool
  | [] => true
  | .cells _ cs :: l => refsL n cs && refsR n l
  | .mapC cs :: l => refsL n cs && refsR n l
  | _ :: l => refsR n l

def Env.cut (E : Env) (n : Nat) : Env := fun r => if r < n then E r else none
theorem Env.cut_le (E : Env) (n : Nat) : (E.cut n).le E := by
  intro r e h
  unfold Env.cut at h
  split at h
  · exact h
  · cases h

theorem refsL_at {n : Nat} {l : List (AVal El)} (h : refsL n l = true) {i : Nat} {a : AVal El} (ha : l[i]? = some a) : refsB n a = true := by
  induction l generalizing i with
  | nil => simp at ha
  | cons b l ih =>
    simp only [refsL, Bool.and_eq_true] at h
    cases i with
    | zero => simp at ha; subst ha; exact h.1
    | succ i => simp at ha; exact ih h.2 ha

section
variable {L : Lay El} {I : Nat → Prop} {w : World} {E : Env}
/-- A value that mentions only names below 'n' stands over the names below 'n'. -/
theorem Rep.cutE {n : Nat} {a : AVal El} {v : Value} (h : Rep L I w E a v) (hb : refsB n a = true) : Rep L I w (E.cut n) a v := by
  have get : ∀ {E : Env} {r : Nat} {e : REnv}, E r = some e → decide (r < n) = true → E.cut n r = some e := fun {E r e} he hr => by
    unfold Env.cut
    rw [if_pos (of_decide_eq_true hr)]; exact he
  induction h with
  | top => exact .top
  | bool => exact .bool
  | int => exact .int
  | str => exact .str
  | nilp => exact .nilp
  | nilf => exact .nilf
  | nilm => exact .nilm
  | nils => exact .nils
  | anyb => exact .anyb
  | ptr h => exact .ptr (get h (by simpa [refsB] using hb))
  | eptr h => exact .eptr (get h (by simpa [refsB] using hb))
  | lptr hi hI hh vals hc hr ih => exact .lptr hi hI hh vals hc hr
  | cs h => exact .cs (get h (by simpa [refsB] using hb))
  | fn hl h ih =>
    simp only [refsB] at hb
    exact .fn hl (fun i c v hc hv => ih i c v hc hv (refsL_at hb hc))
  | listNil => exact .listNil
  | list hI hh h1 h2 vals hc hr ih => exact .list hI hh h1 h2 vals hc hr
  | vec h h1 => exact .vec (get h (by simpa [refsB] using hb)) h1
  | mapr h => exact .mapr (get h (by simpa [refsB] using hb))
  | agg hl h h1 ih =>
    simp only [refsB] at hb
    exact .agg hl (fun i c v hc hv => ih i c v hc hv (refsL_at hb hc)) h1
  | tup hl h ih =>
    simp only [refsB] at hb
    exact .tup hl (fun i c v hc hv => ih i c v hc hv (refsL_at hb hc))

theorem Reps.cutE {n : Nat} {as : List (AVal El)} {vs : List Value} (h : Reps L I w E as vs) (hb : refsL n as = true) : Reps L I w (E.cut n) as vs :=
  ⟨h.len, fun i c v hc hv => (h.at_ i c v hc hv).cutE (refsL_at hb hc)⟩

theorem refsR_at {n : Nat} {R : List (Res El)} (h : refsR n R = true) {r : Nat} {t : TypeId} {cs : List (AVal El)} (hg : getR R r = .cells t cs) : refsL n cs = true := by
  induction R generalizing r with
  | nil => simp [getR] at hg
  | cons x R ih =>
    have h2 : refsR n R = true := by
      cases x <;> simp [refsR] at h <;> first | exact h | exact h.2
    cases r with
    | zero =>
      simp [getR] at hg; subst hg
      simp [refsR] at h; exact h.1
    | succ r => exact ih h2 hg
theorem refsR_atC {n : Nat} {R : List (Res El)} (h : refsR n R = true) {r : Nat} {cs : List (AVal El)} (hg : getR R r = .mapC cs) : refsL n cs = true := by
  induction R generalizing r with
  | nil => simp [getR] at hg
  | cons x R ih =>
    have h2 : refsR n R = true := by
      cases x <;> simp [refsR] at h <;> first | exact h | exact h.2
    cases r with
    | zero =>
      simp [getR] at hg; subst hg
      simp [refsR] at h; exact h.1
    | succ r => exact ih h2 hg

/-- Fewer names, fewer resources. -/
theorem HR.cutE {R R' : List (Res El)} {n : Nat} (h : HR L I w E R) (hR : ∀ r, getR R' r ≠ .dead → getR R' r = getR R r) (hn : ∀ r, getR R' r ≠ .dead → r < n) (hb : refsR n R' = true) : HR L I w (E.cut n) R' := by
  have h' := h.less hR
  have get : ∀ r e, r < n → E r = some e → E.cut n r = some e := fun r e hr he => by unfold Env.cut; rw [if_pos hr]; exact he
  refine ⟨fun r hr => ?_, fun r r' e e' b h1 h2 h3 h4 h5 h6 => h'.apart r r' e e' b h1 h2 (E.cut_le n _ _ h3) (E.cut_le n _ _ h4) h5 h6, fun b hb' => h'.notI b ?_, h'.old⟩
  · obtain ⟨e, h1, h2⟩ := h'.res r hr
    refine ⟨e, get r e (hn r hr) h1, ?_⟩
    cases hg : getR R' r with
    | dead => trivial
    | cells t cs =>
      rw [hg] at h2
      obtain ⟨b, vs, k1, k2, k3, k4⟩ := h2
      exact ⟨b, vs, k1, k2, k3.cutE (refsR_at hb hg), k4⟩
    | vec t xs => rw [hg] at h2; exact h2
    | mapS k t m => rw [hg] at h2; exact h2
    | mapC cs =>
      rw [hg] at h2
      obtain ⟨b, arr, clock, l, k1, k2, k3, k4⟩ := h2
      exact ⟨b, arr, clock, l, k1, k2, k3.cutE (refsR_atC hb hg), k4⟩
  · obtain ⟨r, e, h1, h2, h3⟩ := hb'
    exact ⟨r, e, h1, E.cut_le n _ _ h2, h3⟩
end

/-- A place where a name stands. -/
inductive Loc where
  | slot (d : Nat)
  | cell (r i : Nat)

/-- A told loop: what its carried slots and resources are at the head, what holds, and what goes down. 'fresh': where the names stand that are given anew at each head. -/
structure LSpec (El : TypeId → Type) where
  σ : Type
  slots : σ → List (Nat × AVal El)
  res : σ → List (Nat × Res El)
  inv : σ → Prop
  meas : σ → Nat
  fresh : List Loc := []
  /-- Not told here: carried out once more. -/
  unroll : Bool := false

def appM : List Nat → List Nat → List Nat
  | [], l => l
  | a :: k, l => a :: appM k l
theorem appM_eq (k l : List Nat) : appM k l = k ++ l := by
  induction k with
  | nil => rfl
  | cons a k ih => simp [appM, ih]
def havocF : List (AVal El) → List Tmp → List (AVal El)
  | l, [] => l
  | l, d :: ds => havocF (setF l d .top) ds
def putAll : List (AVal El) → List (Nat × AVal El) → List (AVal El)
  | l, [] => l
  | l, (d, a) :: ds => putAll (setF l d a) ds

def headSt (st : St El) (b : Code) (S : LSpec El) (s : S.σ) : St El := ⟨putAll (havocF st.slots (dstsC b)) (S.slots s), updR st.res (S.res s)⟩

/-- The carried slots are as told. -/
def matchS (slots : List (AVal El)) : List (Nat × AVal El) → Prop
  | [] => True
  | (d, a) :: ds => nth slots d = a ∧ matchS slots ds
/-- The resources are as told; later ones are let go. -/
def matchR : List (Res El) → List (Res El) → Prop
  | _, [] => True
  | [], _ :: _ => False
  | x :: xs, y :: ys => x = y ∧ matchR xs ys
/-- The name that a value bears. -/
def nameA : AVal El → Option Nat
  | .vec r => some r
  | .ptr r _ => some r
  | .mapr r => some r
  | _ => none
def locName (st : St El) : Loc → Option Nat
  | .slot d => nameA (nth st.slots d)
  | .cell r i => match getR st.res r with
    | .cells _ cs => nameA (nth cs i)
    | _ => none
def namesOf (st : St El) : List Loc → List (Option Nat)
  | [] => []
  | l :: ls => locName st l :: namesOf st ls
def nthO : List (Option Nat) → Nat → Option Nat
  | [], _ => none
  | a :: _, 0 => a
  | _ :: l, k + 1 => nthO l k
/-- What a name at the head was before. -/
def wasN (n : Nat) (nm : List (Option Nat)) (q : Nat) : Option Nat := match Nat.blt q n with
  | true => some q
  | false => nthO nm (q - n)
def lenO : List (Option Nat) → Nat
  | [] => 0
  | _ :: l => lenO l + 1

mutual
/-- No list, nothing that is not known, no new name. -/
def plainA (n : Nat) : AVal El → Bool
  | .top => false
  | .anyb => false
  | .list _ _ => false
  | .ptr r _ => Nat.blt r n
  | .eptr r _ _ _ => Nat.blt r n
  | .cs r _ _ => Nat.blt r n
  | .vec r => Nat.blt r n
  | .mapr r => Nat.blt r n
  | .fn _ l => plainL n l
  | .agg l => plainL n l
  | .tup l => plainL n l
  | _ => true
def plainL (n : Nat) : List (AVal El) → Bool
  | [] => true
  | a :: l => plainA n a && plainL n l
end

def tt (b : Bool) : Prop := match b with | true => True | false => False
theorem of_tt {b : Bool} (h : tt b) : b = true := by cases b with | true => rfl | false => exact h.elim

section fit
variable (R : List (Res El)) (s : Nat → Option Nat)
mutual
/-- What is told of a value at the head fits the value there was. -/
def fit0 : AVal El → AVal El → Prop
  | .top, _ => True
  | .anyb, a => match a with
    | .bool _ => True
    | .anyb => True
    | _ => False
  | .list t xs, a => match a with
    | .nils => xs = []
    | .vec r => match getR R r with
      | .vec t' ys => (.vec t' ys : Res El) = .vec t xs
      | _ => False
    | a => a = .list t xs
  | .vec q, a => match a, s q with
    | .vec r, some r' => tt (Nat.beq r r')
    | .nils, none => True
    | _, _ => False
  | .ptr q o, a => match a, s q with
    | .ptr r o', some r' => tt (Nat.beq r r' && Nat.beq o o')
    | _, _ => False
  | .mapr q, a => match a, s q with
    | .mapr r, some r' => tt (Nat.beq r r')
    | _, _ => False
  | .eptr _ _ _ _, _ => False
  | .cs _ _ _, _ => False
  | .fn f bs, a => match a with
    | .fn g as => tt (Nat.beq f g) ∧ fitL bs as
    | _ => False
  | .agg bs, a => match a with
    | .agg as => fitL bs as
    | _ => False
  | .tup bs, a => match a with
    | .tup as => fitL bs as
    | _ => False
  | b, a => a = b
def fitL : List (AVal El) → List (AVal El) → Prop
  | [], [] => True
  | b :: bs, a :: as => fit0 b a ∧ fitL bs as
  | _, _ => False
end
mutual
/-- The vectors that are given up for good. -/
def fz0 : AVal El → AVal El → List Nat
  | .list _ _, a => match a with
    | .vec r => [r]
    | _ => []
  | .fn _ bs, a => match a with
    | .fn _ as => fzL bs as
    | _ => []
  | .agg bs, a => match a with
    | .agg as => fzL bs as
    | _ => []
  | .tup bs, a => match a with
    | .tup as => fzL bs as
    | _ => []
  | _, _ => []
def fzL : List (AVal El) → List (AVal El) → List Nat
  | b :: bs, a :: as => appM (fz0 b a) (fzL bs as)
  | _, _ => []
end

def fitA (n : Nat) (b a : AVal El) : Prop := match plainA n b with
  | true => a = b
  | false => fit0 R s b a
def fitR (n : Nat) (x y : Res El) : Prop := match x with
  | .cells t bs => match plainL n bs with
    | true => y = x
    | false => match y with
      | .cells t' as => tt (Nat.beq t t') ∧ fitL R s bs as
      | _ => False
  | .mapC bs => match plainL n bs with
    | true => y = x
    | false => False
  | x => y = x
end fit

/-- The carried slots are as told. -/
def fitS (R : List (Res El)) (s : Nat → Option Nat) (n : Nat) (slots : List (AVal El)) : List (Nat × AVal El) → Prop
  | [] => True
  | (d, a) :: ds => fitA R s n a (nth slots d) ∧ fitS R s n slots ds
/-- The resources are as told; later ones are let go. -/
def fitRs (R : List (Res El)) (s : Nat → Option Nat) (n : Nat) : Nat → List (Res El) → Prop
  | _, [] => True
  | q, x :: xs => match x with
    | .dead => fitRs R s n (q + 1) xs
    | x => (match s q with
      | some r => fitR R s n x (getR R r)
      | none => match x with
        | .vec _ ys => ys = []
        | _ => False) ∧ fitRs R s n (q + 1) xs
/-- What the live names at the head were. -/
def liveN (s : Nat → Option Nat) : Nat → List (Res El) → List Nat
  | _, [] => []
  | q, .dead :: xs => liveN s (q + 1) xs
  | q, _ :: xs => match s q with
    | some r => r :: liveN s (q + 1) xs
    | none => liveN s (q + 1) xs
def fzS (slots : List (AVal El)) : List (Nat × AVal El) → List Nat
  | [] => []
  | (d, a) :: ds => appM (fz0 a (nth slots d)) (fzS slots ds)
def fzR (R : List (Res El)) (s : Nat → Option Nat) : Nat → List (Res El) → List Nat
  | _, [] => []
  | q, .cells _ bs :: xs => match s q with
    | some r => match getR R r with
      | .cells _ as => appM (fzL bs as) (fzR R s (q + 1) xs)
      | _ => fzR R s (q + 1) xs
    | none => fzR R s (q + 1) xs
  | q, _ :: xs => fzR R s (q + 1) xs
def memN (a : Nat) : List Nat → Bool
  | [] => false
  | b :: l => Nat.beq a b || memN a l
def nodupN : List Nat → Bool
  | [] => true
  | a :: l => !memN a l && nodupN l
def apartN (l : List Nat) : List Nat → Bool
  | [] => true
  | a :: k => !memN a l && apartN l k

def slotsB (n : Nat) : List (Nat × AVal El) → Bool
  | [] => true
  | (_, a) :: ds => refsB n a && slotsB n ds
def inDsts (ds : List Tmp) : List (Nat × AVal El) → Bool
  | [] => true
  | (d, _) :: l => ds.contains d && inDsts ds l

def okHd (n : Nat) (st : St El) (told : List (Nat × AVal El)) (hd : List (Res El)) (nm : List (Option Nat)) : Bool :=
  slotsB (n + lenO nm) told && refsR (n + lenO nm) hd && Nat.beq (lenR hd) (n + lenO nm) && nodupN (liveN (wasN n nm) 0 hd) &&
    apartN (liveN (wasN n nm) 0 hd) (appM (fzS st.slots told) (fzR st.res (wasN n nm) 0 hd))
def matchSt (n : Nat) (st : St El) (S : LSpec El) (hd : St El) (s : S.σ) : Prop :=
  let nm := namesOf st S.fresh
  fitS st.res (wasN n nm) n st.slots (S.slots s) ∧ fitRs st.res (wasN n nm) n 0 hd.res ∧ tt (okHd n st (S.slots s) hd.res nm)

section defs
variable (C : Bool → Prop → Prop → Prop) (c : Cx El) (Γ : FuncId → Option (GSpec El)) (spec : Nat → Option (St El → LSpec El))

/-- The telling of a loop, where it is told here. -/
def toldOf (o : Option (St El → LSpec El)) (st : St El) : Option (St El → LSpec El) := match o with
  | some F => match (F st).unroll with
    | true => none
    | false => some F
  | none => none
/-- What is to be proved so that a piece of code ends in 'K'. -/
def aexec : Nat → Code → St El → (AEx → St El → Prop) → Prop
  | 0, _, _, _ => False
  | n + 1, code, st, K => match code with
    | .region _ ops draw => (aregionX c Γ ops draw st).wp C (fun st' => forceSt st' fun st' => K .normal st')
    | .seq a b => match (keyOf b).bind fun k => spec (k + 1000) with
      | some F => aexec n a st (fun e st' => match e with
          | .normal => ∃ s0 : (F st).σ, (F st).inv s0 ∧ matchSt (lenR st.res) st' (F st) (headSt st a (F st) s0) s0
          | e => K e st') ∧
          ∀ s : (F st).σ, (F st).inv s → forceSt (headSt st a (F st) s) fun h => aexec n b h K
      | none => aexec n a st fun e st' => match e with
        | .normal => aexec n b st' K
        | e => K e st'
    | .cond x a b => match evA st.slots x with
      | .bool t => match joinS t a b st with
        | some st' => forceSt st' fun st' => K .normal st'
        | none => C t (aexec n a ⟨setX st.slots x true, st.res⟩ K) (aexec n b ⟨setX st.slots x false, st.res⟩ K)
      | .anyb => aexec n a st K ∧ aexec n b st K
      | _ => False
    | .block id b => aexec n b st fun e st' => match e with
      | .exit i => if i = id then K .normal st' else K (.exit i) st'
      | e => K e st'
    | .loop b => match toldOf ((keyOf b).bind spec) st with
      | some F => (∃ s0 : (F st).σ, (F st).inv s0 ∧ matchSt (lenR st.res) st (F st) (headSt st b (F st) s0) s0) ∧
          ∀ s : (F st).σ, (F st).inv s → forceSt (headSt st b (F st) s) fun h => aexec n b h fun e st' => match e with
            | .normal => ∃ s' : (F st).σ, (F st).inv s' ∧ (F st).meas s' < (F st).meas s ∧ matchSt (lenR st.res) st' (F st) (headSt st b (F st) s') s'
            | e => K e st'
      | none => aexec n b st fun e st' => match e with
        | .normal => aexec n (.loop b) st' K
        | e => K e st'
    | .exit id => K (.exit id) st
    | .ret => K .ret st
    | .skip => K .normal st
    | .label _ => K .normal st
    | _ => False
end defs

section proofs
variable {c : Cx El} {Γ : FuncId → Option (GSpec El)} {spec : Nat → Option (St El → LSpec El)}

theorem length_havoc (l : List (AVal El)) (ds : List Tmp) : (havocF l ds).length = l.length := by
  induction ds generalizing l with
  | nil => rfl
  | cons d ds ih => simp [havocF, ih, setF_eq]
theorem nth_havoc (l : List (AVal El)) (ds : List Tmp) (t : Tmp) : nth (havocF l ds) t = nth l t ∧ t ∉ ds ∨ nth (havocF l ds) t = .top := by
  induction ds generalizing l with
  | nil => exact .inl ⟨rfl, by simp⟩
  | cons d ds ih =>
    simp only [havocF]
    rcases ih (setF l d .top) with ⟨h1, h2⟩ | h
    · rw [h1]
      have := nth_setT l (some d) .top t
      simp only [setT] at this
      rw [this]
      by_cases hd : d = t
      · subst hd
        by_cases hlt : d < l.length
        · rw [if_pos ⟨rfl, hlt⟩]; exact .inr rfl
        · rw [if_neg (fun h => hlt h.2)]
          right
          rw [nth_eq, List.getD_eq_getElem?_getD, List.getElem?_eq_none (Nat.le_of_not_lt hlt)]; rfl
      · rw [if_neg (fun h => hd (by simpa using h.1))]
        exact .inl ⟨rfl, by simp [Ne.symm hd, h2]⟩
    · exact .inr h

theorem length_putAll (l : List (AVal El)) (ds : List (Nat × AVal El)) : (putAll l ds).length = l.length := by
  induction ds generalizing l with
  | nil => rfl
  | cons d ds ih => obtain ⟨d, a⟩ := d; simp [putAll, ih, setF_eq]

/-- What a head slot is: a carried one, an untouched one, or unknown. -/
theorem nth_putAll (l : List (AVal El)) (ds : List (Nat × AVal El)) (t : Tmp) : (∃ a, (t, a) ∈ ds ∧ nth (putAll l ds) t = a) ∨ nth (putAll l ds) t = nth l t := by
  induction ds generalizing l with
  | nil => exact .inr rfl
  | cons d ds ih =>
    obtain ⟨d, a⟩ := d
    simp only [putAll]
    rcases ih (setF l d a) with ⟨b, h1, h2⟩ | h
    · exact .inl ⟨b, List.mem_cons_of_mem _ h1, h2⟩
    · rw [h]
      have := nth_setT l (some d) a t
      simp only [setT] at this
      rw [this]
      by_cases hd : d = t ∧ t < l.length
      · rw [if_pos ⟨by rw [hd.1], hd.2⟩]
        exact .inl ⟨a, by rw [← hd.1]; exact List.mem_cons_self .., rfl⟩
      · rw [if_neg (fun h => hd ⟨by simpa using h.1, h.2⟩)]
        exact .inr rfl

theorem matchS_at {slots : List (AVal El)} {ds : List (Nat × AVal El)} (h : matchS slots ds) {t : Nat} {a : AVal El} (hm : (t, a) ∈ ds) : nth slots t = a := by
  induction ds with
  | nil => cases hm
  | cons d ds ih =>
    obtain ⟨d, b⟩ := d
    rcases List.mem_cons.1 hm with hm | hm
    · cases hm; exact h.1
    · exact ih h.2 hm
theorem slotsB_at {n : Nat} {ds : List (Nat × AVal El)} (h : slotsB n ds = true) {t : Nat} {a : AVal El} (hm : (t, a) ∈ ds) : refsB n a = true := by
  induction ds with
  | nil => cases hm
  | cons d ds ih =>
    obtain ⟨d, b⟩ := d
    simp only [slotsB, Bool.and_eq_true] at h
    rcases List.mem_cons.1 hm with hm | hm
    · cases hm; exact h.1
    · exact ih h.2 hm
theorem matchR_at {R R' : List (Res El)} (h : matchR R R') {r : Nat} (hr : getR R' r ≠ .dead) : getR R' r = getR R r := by
  induction R' generalizing R r with
  | nil => simp [getR] at hr
  | cons y ys ih =>
    cases R with
    | nil => exact h.elim
    | cons x xs =>
      cases r with
      | zero => simp only [getR]; exact h.1.symm
      | succ r => exact ih h.2 hr

theorem memN_iff {a : Nat} {l : List Nat} : memN a l = true ↔ a ∈ l := by
  induction l with
  | nil => simp [memN]
  | cons b l ih => simp [memN, ih]
theorem nodupN_iff {l : List Nat} (h : nodupN l = true) : l.Nodup := by
  induction l with
  | nil => simp
  | cons a l ih =>
    simp only [nodupN, Bool.and_eq_true, Bool.not_eq_true'] at h
    refine List.nodup_cons.2 ⟨fun hm => ?_, ih h.2⟩
    rw [memN_iff.2 hm] at h; cases h.1
theorem apartN_iff {l k : List Nat} (h : apartN l k = true) : ∀ a ∈ k, a ∉ l := by
  induction k with
  | nil => simp
  | cons a k ih =>
    simp only [apartN, Bool.and_eq_true, Bool.not_eq_true'] at h
    intro b hb hm
    rcases List.mem_cons.1 hb with rfl | hb
    · rw [memN_iff.2 hm] at h; cases h.1
    · exact ih h.2 b hb hm
theorem mem_liveN {s : Nat → Option Nat} {q0 : Nat} {R : List (Res El)} {r : Nat} : r ∈ liveN s q0 R ↔ ∃ q, getR R q ≠ .dead ∧ s (q0 + q) = some r := by
  induction R generalizing q0 with
  | nil => simp [liveN, getR]
  | cons x R ih =>
    have key : (∃ q, getR (x :: R) q ≠ .dead ∧ s (q0 + q) = some r) ↔ (x ≠ .dead ∧ s q0 = some r) ∨ ∃ q, getR R q ≠ .dead ∧ s (q0 + 1 + q) = some r := by
      constructor
      · rintro ⟨q, h1, h2⟩
        cases q with
        | zero => exact .inl ⟨h1, h2⟩
        | succ q => exact .inr ⟨q, h1, by rw [show q0 + 1 + q = q0 + (q + 1) from by omega]; exact h2⟩
      · rintro (⟨h1, h2⟩ | ⟨q, h1, h2⟩)
        · exact ⟨0, h1, h2⟩
        · exact ⟨q + 1, h1, by rw [show q0 + (q + 1) = q0 + 1 + q from by omega]; exact h2⟩
    rw [key, ← ih]
    cases x with
    | dead => simp [liveN]
    | cells t cs =>
      simp only [liveN]
      cases hs : s q0 with
      | none => simp
      | some r' => simp [eq_comm]
    | vec t xs =>
      simp only [liveN]
      cases hs : s q0 with
      | none => simp
      | some r' => simp [eq_comm]
    | mapS k t m =>
      simp only [liveN]
      cases hs : s q0 with
      | none => simp
      | some r' => simp [eq_comm]
    | mapC cs =>
      simp only [liveN]
      cases hs : s q0 with
      | none => simp
      | some r' => simp [eq_comm]
theorem liveN_inj {s : Nat → Option Nat} {q0 : Nat} {R : List (Res El)} (h : (liveN s q0 R).Nodup) {q q' r : Nat} (h1 : getR R q ≠ .dead) (h2 : getR R q' ≠ .dead) (h3 : s (q0 + q) = some r) (h4 : s (q0 + q') = some r) : q = q' := by
  induction R generalizing q0 q q' with
  | nil => exact absurd rfl h1
  | cons x R ih =>
    have low : ∀ {k : Nat}, x ≠ .dead → s q0 = some r → getR R k ≠ .dead → s (q0 + (k + 1)) = some r → False := by
      intro k hx hs hk hsk
      have hm : r ∈ liveN s (q0 + 1) R := mem_liveN.2 ⟨k, hk, by rw [show q0 + 1 + k = q0 + (k + 1) from by omega]; exact hsk⟩
      have hn : (r :: liveN s (q0 + 1) R).Nodup := by
        cases x with
        | dead => exact absurd rfl hx
        | cells t cs => simpa only [liveN, hs] using h
        | vec t xs => simpa only [liveN, hs] using h
        | mapS k t m => simpa only [liveN, hs] using h
        | mapC cs => simpa only [liveN, hs] using h
      exact (List.nodup_cons.1 hn).1 hm
    have tail : (liveN s (q0 + 1) R).Nodup := by
      cases x with
      | dead => simpa only [liveN] using h
      | cells t cs =>
        simp only [liveN] at h
        split at h
        · exact (List.nodup_cons.1 h).2
        · exact h
      | vec t xs =>
        simp only [liveN] at h
        split at h
        · exact (List.nodup_cons.1 h).2
        · exact h
      | mapS k t m =>
        simp only [liveN] at h
        split at h
        · exact (List.nodup_cons.1 h).2
        · exact h
      | mapC cs =>
        simp only [liveN] at h
        split at h
        · exact (List.nodup_cons.1 h).2
        · exact h
    cases q with
    | zero => cases q' with
      | zero => rfl
      | succ q' => exact (low h1 h3 h2 h4).elim
    | succ q => cases q' with
      | zero => exact (low h2 h4 h1 h3).elim
      | succ q' => exact congrArg (· + 1) (ih tail h1 h2 (by rw [show q0 + 1 + q = q0 + (q + 1) from by omega]; exact h3) (by rw [show q0 + 1 + q' = q0 + (q' + 1) from by omega]; exact h4))

mutual
theorem plain_refs {n : Nat} : ∀ a : AVal El, plainA n a = true → refsB n a = true
  | .ptr r o, h => by simpa [plainA, refsB, Nat.blt_eq] using h
  | .eptr r _ _ _, h => by simpa [plainA, refsB, Nat.blt_eq] using h
  | .cs r _ _, h => by simpa [plainA, refsB, Nat.blt_eq] using h
  | .vec r, h => by simpa [plainA, refsB, Nat.blt_eq] using h
  | .mapr r, h => by simpa [plainA, refsB, Nat.blt_eq] using h
  | .fn f l, h => plainL_refs l h
  | .agg l, h => plainL_refs l h
  | .tup l, h => plainL_refs l h
  | .top, _ | .bool _, _ | .int _ _, _ | .str _, _ | .nilp, _ | .nilf, _ | .nilm, _ | .nils, _ | .anyb, _ | .lptr _ _ _ _ _, _ | .list _ _, _ => rfl
theorem plainL_refs {n : Nat} : ∀ l : List (AVal El), plainL n l = true → refsL n l = true
  | [], _ => rfl
  | a :: l, h => by
    simp only [plainL, Bool.and_eq_true] at h
    simp only [refsL, Bool.and_eq_true]
    exact ⟨plain_refs a h.1, plainL_refs l h.2⟩
end

section fitok
variable {L : Lay El} {I J : Nat → Prop} {w : World} {E E' : Env} {R : List (Res El)} {s : Nat → Option Nat} {m : Nat}

/-- What the renaming owes. -/
structure RenOk (L : Lay El) (I J : Nat → Prop) (w : World) (E E' : Env) (R : List (Res El)) (s : Nat → Option Nat) (m : Nat) : Prop where
  hr : HR L I w E R
  imm : ∀ b, I b → J b
  some_ : ∀ q r, q < m → s q = some r → ∀ e, E r = some e → E' q = some e
  none_ : ∀ q, q < m → s q = none → E' q = some ⟨none, .slice none 0 0⟩

theorem Reps.fnv {cs : List (AVal El)} {vs : List Value} (h : Reps L I w E cs vs) {f : FuncId} : Rep L I w E (.fn f cs) (.func (.func f) #[] vs.toArray) := .fn h.len h.at_

mutual
theorem fit0_ok (hk : RenOk L I J w E E' R s m) : ∀ (b a : AVal El) (v : Value), fit0 R s b a → refsB m b = true → (∀ r ∈ fz0 b a, getR R r ≠ .dead → ∀ e k, E r = some e → e.blk = some k → J k) → Rep L I w E a v → Rep L J w E' b v
  | .top, a, v, _, _, _, _ => .top
  | .anyb, a, v, h, _, _, hr => by
    unfold fit0 at h
    split at h
    · cases hr; exact .anyb
    · cases hr; exact .anyb
    · exact h.elim
  | .list t xs, a, v, h, _, hf, hr => by
    unfold fit0 at h
    split at h
    · cases hr; subst h; exact .listNil
    · rename_i r
      split at h
      · rename_i t' ys hg
        cases h
        cases hr with
        | vec he h1 =>
          obtain ⟨e', k1, k2⟩ := hk.hr.res r (by rw [hg]; simp)
          rw [he] at k1; cases k1
          rw [hg] at k2
          rcases k2 with ⟨g1, rfl, a, g3⟩ | ⟨b, cap, cells, vals, g1, g2, g3, g4, g5, g6, g7⟩
          · rw [g3]; exact .listNil
          · rw [g2]
            refine .list (hf r (by simp [fz0]) (by rw [hg]; simp) _ _ he g1) g4 rfl g3 vals (fun i j hi hj => ?_) (fun i x hx j q hq => (g7 i x hx j q hq).mono (fun _ h => h.elim) (fun _ h => h.elim) (Env.le_refl _))
            simpa using g6 i j hi hj
      · exact h.elim
    · subst h
      cases hr with
      | listNil => exact .listNil
      | list hI hb h1 h2 vals hc hr' => exact .list (hk.imm _ hI) hb h1 h2 vals hc (fun i x hx j c hj => (hr' i x hx j c hj).mono hk.imm (fun _ _ => rfl) (Env.le_refl _))
  | .vec q, a, v, h, hb, _, hr => by
    have hq : q < m := by simpa [refsB] using hb
    cases hs : s q with
    | none =>
      cases a <;> simp only [fit0, hs] at h
      cases hr
      exact Rep.vec (hk.none_ q hq hs) rfl
    | some r' =>
      cases a <;> simp only [fit0, hs] at h
      have := Nat.eq_of_beq_eq_true (of_tt h); subst this
      cases hr with
      | vec he h1 => exact .vec (hk.some_ q _ hq hs _ he) h1
  | .ptr q o, a, v, h, hb, _, hr => by
    have hq : q < m := by simpa [refsB] using hb
    cases hs : s q with
    | none => cases a <;> simp only [fit0, hs] at h
    | some r' =>
      cases a <;> simp only [fit0, hs] at h
      have := of_tt h
      simp only [Bool.and_eq_true] at this
      have h1 := Nat.eq_of_beq_eq_true this.1
      have h2 := Nat.eq_of_beq_eq_true this.2
      subst h1; subst h2
      cases hr with
      | ptr he => exact .ptr (hk.some_ q _ hq hs _ he)
  | .mapr q, a, v, h, hb, _, hr => by
    have hq : q < m := by simpa [refsB] using hb
    cases hs : s q with
    | none => cases a <;> simp only [fit0, hs] at h
    | some r' =>
      cases a <;> simp only [fit0, hs] at h
      have := Nat.eq_of_beq_eq_true (of_tt h); subst this
      cases hr with
      | mapr he => exact .mapr (hk.some_ q _ hq hs _ he)
  | .eptr _ _ _ _, _, _, h, _, _, _ => h.elim
  | .cs _ _ _, _, _, h, _, _, _ => h.elim
  | .fn f bs, a, v, h, hb, hf, hr => by
    unfold fit0 at h
    split at h
    · rename_i g as
      have := Nat.eq_of_beq_eq_true (of_tt h.1); subst this
      cases hr with
      | fn hl hh => exact (fitL_ok hk bs as _ h.2 hb hf ⟨hl, hh⟩).fnv
    · exact h.elim
  | .agg bs, a, v, h, hb, hf, hr => by
    unfold fit0 at h
    split at h
    · rename_i as
      cases hr with
      | agg hl hh h1 => exact (fitL_ok hk bs as _ h hb hf ⟨hl, hh⟩).agg h1
    · exact h.elim
  | .tup bs, a, v, h, hb, hf, hr => by
    unfold fit0 at h
    split at h
    · rename_i as
      cases hr with
      | tup hl hh =>
        have := fitL_ok hk bs as _ h hb hf ⟨hl, hh⟩
        exact .tup this.len this.at_
    · exact h.elim
  | .bool _, a, v, h, _, _, hr => by unfold fit0 at h; subst h; cases hr; exact .bool
  | .int _ _, a, v, h, _, _, hr => by unfold fit0 at h; subst h; cases hr; exact .int
  | .str _, a, v, h, _, _, hr => by unfold fit0 at h; subst h; cases hr; exact .str
  | .nilp, a, v, h, _, _, hr => by unfold fit0 at h; subst h; cases hr; exact .nilp
  | .nilf, a, v, h, _, _, hr => by unfold fit0 at h; subst h; cases hr; exact .nilf
  | .nilm, a, v, h, _, _, hr => by unfold fit0 at h; subst h; cases hr; exact .nilm
  | .nils, a, v, h, _, _, hr => by unfold fit0 at h; subst h; cases hr; exact .nils
  | .lptr _ _ _ _ _, a, v, h, _, _, hr => by
    unfold fit0 at h; subst h
    cases hr with
    | lptr hi hI hb vals hc hr' => exact .lptr hi (hk.imm _ hI) hb vals hc (fun i x hx j c hj => (hr' i x hx j c hj).mono hk.imm (fun _ _ => rfl) (Env.le_refl _))
theorem fitL_ok (hk : RenOk L I J w E E' R s m) : ∀ (bs as : List (AVal El)) (vs : List Value), fitL R s bs as → refsL m bs = true → (∀ r ∈ fzL bs as, getR R r ≠ .dead → ∀ e k, E r = some e → e.blk = some k → J k) → Reps L I w E as vs → Reps L J w E' bs vs
  | [], [], vs, _, _, _, hr => by cases hr.inv_nil; exact Reps.nil
  | b :: bs, a :: as, vs, h, hb, hf, hr => by
    obtain ⟨v, vs', rfl, h1, h2⟩ := hr.inv_cons
    unfold fitL at h
    simp only [refsL, Bool.and_eq_true] at hb
    simp only [fzL, appM_eq, List.mem_append] at hf
    exact Reps.cons (fit0_ok hk b a v h.1 hb.1 (fun r hr => hf r (.inl hr)) h1) (fitL_ok hk bs as vs' h.2 hb.2 (fun r hr => hf r (.inr hr)) h2)
  | [], _ :: _, _, h, _, _, _ => by unfold fitL at h; exact h.elim
  | _ :: _, [], _, h, _, _, _ => by unfold fitL at h; exact h.elim
end

theorem same_ok {n : Nat} (hk : RenOk L I J w E E' R s m) (hn : n ≤ m) (hs : ∀ q, q < n → s q = some q) {a : AVal El} {v : Value} (hp : plainA n a = true) (h : Rep L I w E a v) : Rep L J w E' a v := by
  refine (h.cutE (plain_refs a hp)).mono hk.imm (fun _ _ => rfl) (fun r e he => ?_)
  unfold Env.cut at he
  split at he
  · rename_i hr
    exact hk.some_ r r (by omega) (hs r hr) e he
  · cases he
theorem sameL_ok {n : Nat} (hk : RenOk L I J w E E' R s m) (hn : n ≤ m) (hs : ∀ q, q < n → s q = some q) {as : List (AVal El)} {vs : List Value} (hp : plainL n as = true) (h : Reps L I w E as vs) : Reps L J w E' as vs := by
  refine (h.cutE (plainL_refs as hp)).mono hk.imm (fun _ _ => rfl) (fun r e he => ?_)
  unfold Env.cut at he
  split at he
  · rename_i hr
    exact hk.some_ r r (by omega) (hs r hr) e he
  · cases he
theorem fitA_ok {n : Nat} (hk : RenOk L I J w E E' R s m) (hn : n ≤ m) (hs : ∀ q, q < n → s q = some q) {b a : AVal El} {v : Value} (h : fitA R s n b a) (hb : refsB m b = true) (hf : ∀ r ∈ fz0 b a, getR R r ≠ .dead → ∀ e k, E r = some e → e.blk = some k → J k) (hr : Rep L I w E a v) : Rep L J w E' b v := by
  unfold fitA at h
  split at h
  · rename_i hp; subst h; exact same_ok hk hn hs hp hr
  · exact fit0_ok hk b a v h hb hf hr
end fitok

theorem fitS_at {R : List (Res El)} {s : Nat → Option Nat} {n : Nat} {slots : List (AVal El)} {ds : List (Nat × AVal El)} (h : fitS R s n slots ds) {t : Nat} {a : AVal El} (hm : (t, a) ∈ ds) : fitA R s n a (nth slots t) := by
  induction ds with
  | nil => simp at hm
  | cons d ds ih =>
    rcases List.mem_cons.1 hm with rfl | hm
    · exact h.1
    · exact ih h.2 hm
theorem fzS_at {slots : List (AVal El)} {ds : List (Nat × AVal El)} {t : Nat} {a : AVal El} (hm : (t, a) ∈ ds) {r : Nat} (hr : r ∈ fz0 a (nth slots t)) : r ∈ fzS slots ds := by
  induction ds with
  | nil => simp at hm
  | cons d ds ih =>
    simp only [fzS, appM_eq, List.mem_append]
    rcases List.mem_cons.1 hm with rfl | hm
    · exact .inl hr
    · exact .inr (ih hm)
theorem fitRs_at {R : List (Res El)} {s : Nat → Option Nat} {n q0 : Nat} {xs : List (Res El)} (h : fitRs R s n q0 xs) {q : Nat} (hq : getR xs q ≠ .dead) :
    (∀ r, s (q0 + q) = some r → fitR R s n (getR xs q) (getR R r)) ∧ (s (q0 + q) = none → ∃ t, getR xs q = .vec t []) := by
  induction xs generalizing q0 q with
  | nil => exact absurd rfl hq
  | cons x xs ih =>
    have hh : fitRs R s n (q0 + 1) xs := by
      cases x with
      | dead => simpa only [fitRs] using h
      | cells t cs => simp only [fitRs] at h; exact h.2
      | vec t ys => simp only [fitRs] at h; exact h.2
      | mapS k t m => simp only [fitRs] at h; exact h.2
      | mapC cs => simp only [fitRs] at h; exact h.2
    cases q with
    | succ q =>
      have := ih hh hq
      rw [show q0 + 1 + q = q0 + (q + 1) from by omega] at this
      exact this
    | zero =>
      simp only [Nat.add_zero, getR] at hq ⊢
      cases x with
      | dead => exact absurd rfl hq
      | cells t cs =>
        simp only [fitRs] at h
        have h1 := h.1
        cases hs : s q0 with
        | none => rw [hs] at h1; exact h1.elim
        | some r => rw [hs] at h1; exact ⟨fun r' hr' => by cases hr'; exact h1, fun hn => by cases hn⟩
      | vec t ys =>
        simp only [fitRs] at h
        have h1 := h.1
        cases hs : s q0 with
        | none => rw [hs] at h1; exact ⟨fun r' hr' => (by cases hr'), fun _ => ⟨t, by rw [show ys = [] from h1]⟩⟩
        | some r => rw [hs] at h1; exact ⟨fun r' hr' => by cases hr'; exact h1, fun hn => by cases hn⟩
      | mapS k t m =>
        simp only [fitRs] at h
        have h1 := h.1
        cases hs : s q0 with
        | none => rw [hs] at h1; exact h1.elim
        | some r => rw [hs] at h1; exact ⟨fun r' hr' => by cases hr'; exact h1, fun hn => by cases hn⟩
      | mapC cs =>
        simp only [fitRs] at h
        have h1 := h.1
        cases hs : s q0 with
        | none => rw [hs] at h1; exact h1.elim
        | some r => rw [hs] at h1; exact ⟨fun r' hr' => by cases hr'; exact h1, fun hn => by cases hn⟩
theorem fzR_at {R : List (Res El)} {s : Nat → Option Nat} {q0 : Nat} {xs : List (Res El)} {q r : Nat} {t t' : TypeId} {bs as : List (AVal El)} (hq : getR xs q = .cells t bs) (hs : s (q0 + q) = some r) (hr : getR R r = .cells t' as) {f : Nat} (hf : f ∈ fzL bs as) : f ∈ fzR R s q0 xs := by
  induction xs generalizing q0 q with
  | nil => cases hq
  | cons x xs ih =>
    cases q with
    | zero =>
      simp only [getR] at hq; subst hq
      simp only [Nat.add_zero] at hs
      simp only [fzR, hs, hr, appM_eq, List.mem_append]
      exact .inl hf
    | succ q =>
      have := ih (q0 := q0 + 1) (q := q) hq (by rw [show q0 + 1 + q = q0 + (q + 1) from by omega]; exact hs)
      cases x with
      | dead => exact this
      | vec t xs => exact this
      | mapS k t m => exact this
      | mapC cs => exact this
      | cells t'' cs =>
        simp only [fzR]
        split
        · split
          · rw [appM_eq]; exact List.mem_append.2 (.inr this)
          · exact this
        · exact this

theorem blt_of {a b : Nat} (h : a < b) : Nat.blt a b = true := by rw [Nat.blt_eq]; exact h
theorem lt_of_blt {a b : Nat} (h : Nat.blt a b = true) : a < b := by rw [Nat.blt_eq] at h; exact h
theorem wasN_lt {n : Nat} {nm : List (Option Nat)} {q : Nat} (h : q < n) : wasN n nm q = some q := by
  unfold wasN
  rw [show Nat.blt q n = true from blt_of h]

/-- The head of a told loop, reached. -/
theorem head_ok {code : Code} {I I' : Nat → Prop} {E E' : Env} {st st' : St El} {a a' : Act} {w w' : World} {b : Code} {S : LSpec El} {s : S.σ} (h0 : HoldS c I E st a w)
    (hr : Reach c code I E st a w I' E' st' a' w') (hk : KeepsC b a a') (hm : matchSt (lenR st.res) st' S (headSt st b S s) s) :
    ∃ I'' E'', Reach c b I E st a w I'' E'' (headSt st b S s) a' w' := by
  obtain ⟨m1, m2, m3⟩ := hm
  have m3 := of_tt m3
  generalize hnm : namesOf st' S.fresh = nm at m1 m2 m3
  generalize hn : lenR st.res = n at m1 m2 m3
  unfold okHd at m3
  simp only [Bool.and_eq_true] at m3
  obtain ⟨⟨⟨⟨m3, m4⟩, m5⟩, m6⟩, m7⟩ := m3
  have m5 := Nat.eq_of_beq_eq_true m5
  have m6 := nodupN_iff m6
  have m7 := apartN_iff m7
  generalize hfz : appM (fzS st'.slots (S.slots s)) (fzR st'.res (wasN n nm) 0 (headSt st b S s).res) = fz at m7
  -- the blocks that are frozen here, the names as they are from here on
  let J : Nat → Prop := fun k => I' k ∨ ∃ r ∈ fz, getR st'.res r ≠ .dead ∧ ∃ e, E' r = some e ∧ e.blk = some k
  let E2 : Env := fun q => match Nat.blt q (n + lenO nm) with
    | true => match wasN n nm q with
      | some r => E' r
      | none => some ⟨none, .slice none 0 0⟩
    | false => none
  have hlow : ∀ q, q < n → wasN n nm q = some q := fun q hq => wasN_lt hq
  have hE2 : ∀ q, q < n + lenO nm → E2 q = match wasN n nm q with | some r => E' r | none => some ⟨none, .slice none 0 0⟩ := fun q hq => by
    show (match Nat.blt q (n + lenO nm) with | true => _ | false => none) = _
    rw [show Nat.blt q (n + lenO nm) = true from blt_of hq]
  have hE2n : ∀ q, n + lenO nm ≤ q → E2 q = none := fun q hq => by
    show (match Nat.blt q (n + lenO nm) with | true => _ | false => none) = _
    rw [show Nat.blt q (n + lenO nm) = false from by
      cases hb : Nat.blt q (n + lenO nm) with
      | false => rfl
      | true => have := lt_of_blt hb; omega]
  have hren : RenOk c.L I' J w' E' E2 st'.res (wasN n nm) (n + lenO nm) := ⟨hr.holds.hr, fun _ h => .inl h, fun q r hq hs e he => by rw [hE2 q hq, hs]; exact he, fun q hq hs => by rw [hE2 q hq, hs]⟩
  have hdead : ∀ q, getR (headSt st b S s).res q ≠ .dead → q < n + lenO nm := fun q hq => by
    rcases Nat.lt_or_ge q (n + lenO nm) with h | h
    · exact h
    · exact absurd (getR_ge (by rw [m5]; exact h)) hq
  have hEle : E.le E2 := by
    intro r e he
    rcases Nat.lt_or_ge r n with h | h
    · rw [hE2 r (by omega), hlow r h]; exact hr.ext.env r e he
    · rw [h0.free r (by rw [hn]; exact h)] at he; cases he
  have himm := h0.hr.immSame hr.ext
  have hfzJ : ∀ r ∈ fz, getR st'.res r ≠ .dead → ∀ e k, E' r = some e → e.blk = some k → J k := fun r hr hd e k he hb => .inr ⟨r, hr, hd, e, he, hb⟩
  -- each live name at the head
  have live : ∀ q, getR (headSt st b S s).res q ≠ .dead → ∃ e, E2 q = some e ∧ HRes c.L J w' E2 e (getR (headSt st b S s).res q) ∧
      (∀ k, e.blk = some k → ∃ r, wasN n nm q = some r ∧ getR st'.res r ≠ .dead ∧ E' r = some e) := by
    intro q hq
    have hlt := hdead q hq
    have hf := fitRs_at m2 hq
    simp only [Nat.zero_add] at hf
    cases hw : wasN n nm q with
    | none =>
      obtain ⟨t, ht⟩ := hf.2 hw
      refine ⟨⟨none, .slice none 0 0⟩, by rw [hE2 q hlt, hw], ?_, fun k hk => by cases hk⟩
      rw [ht]; exact .inl ⟨rfl, rfl, none, rfl⟩
    | some r =>
      have h1 := hf.1 r hw
      cases hx : getR (headSt st b S s).res q with
      | dead => exact absurd hx hq
      | vec t xs =>
        rw [hx] at h1
        simp only [fitR] at h1
        obtain ⟨e, g1, g2⟩ := hr.holds.hr.res r (by rw [h1]; simp)
        rw [h1] at g2
        exact ⟨e, by rw [hE2 q hlt, hw]; exact g1, g2, fun k _ => ⟨r, rfl, by rw [h1]; simp, g1⟩⟩
      | mapS kk t m =>
        rw [hx] at h1
        simp only [fitR] at h1
        obtain ⟨e, g1, g2⟩ := hr.holds.hr.res r (by rw [h1]; simp)
        rw [h1] at g2
        obtain ⟨blk, arr, clock, k1, k2, k3⟩ := g2
        exact ⟨e, by rw [hE2 q hlt, hw]; exact g1, ⟨blk, arr, clock, k1, k2, k3.mono⟩, fun k _ => ⟨r, rfl, by rw [h1]; simp, g1⟩⟩
      | mapC bs =>
        rw [hx] at h1
        have hrefs := refsR_atC m4 hx
        simp only [fitR] at h1
        split at h1
        · rename_i hp
          obtain ⟨e, g1, g2⟩ := hr.holds.hr.res r (by rw [h1]; simp)
          rw [h1] at g2
          obtain ⟨blk, arr, clock, l, k1, k2, k3, k4⟩ := g2
          exact ⟨e, by rw [hE2 q hlt, hw]; exact g1, ⟨blk, arr, clock, l, k1, k2, sameL_ok hren (by omega) hlow hp k3, k4⟩, fun k _ => ⟨r, rfl, by rw [h1]; simp, g1⟩⟩
        · exact h1.elim
      | cells t bs =>
        rw [hx] at h1
        have hrefs := refsR_at m4 hx
        simp only [fitR] at h1
        split at h1
        · rename_i hp
          obtain ⟨e, g1, g2⟩ := hr.holds.hr.res r (by rw [h1]; simp)
          rw [h1] at g2
          obtain ⟨blk, vs, k1, k2, k3, k4⟩ := g2
          exact ⟨e, by rw [hE2 q hlt, hw]; exact g1, ⟨blk, vs, k1, k2, sameL_ok hren (by omega) hlow hp k3, k4⟩, fun k _ => ⟨r, rfl, by rw [h1]; simp, g1⟩⟩
        · split at h1
          · rename_i t' as hg
            obtain ⟨h2, h3⟩ := h1
            have := Nat.eq_of_beq_eq_true (of_tt h2); subst this
            obtain ⟨e, g1, g2⟩ := hr.holds.hr.res r (by rw [hg]; simp)
            rw [hg] at g2
            obtain ⟨blk, vs, k1, k2, k3, k4⟩ := g2
            refine ⟨e, by rw [hE2 q hlt, hw]; exact g1, ⟨blk, vs, k1, k2, fitL_ok hren bs as vs h3 hrefs (fun f hf' => hfzJ f ?_) k3, k4⟩, fun k _ => ⟨r, rfl, by rw [hg]; simp, g1⟩⟩
            rw [← hfz, appM_eq]
            exact List.mem_append.2 (.inr (fzR_at hx (by rw [Nat.zero_add]; exact hw) hg hf'))
          · exact h1.elim
  have own : ∀ k, Own E2 (headSt st b S s).res k → ∃ q r e, getR (headSt st b S s).res q ≠ .dead ∧ wasN n nm q = some r ∧ getR st'.res r ≠ .dead ∧ E' r = some e ∧ e.blk = some k := by
    rintro k ⟨q, e, g1, g2, g3⟩
    obtain ⟨e', k1, _, k3⟩ := live q g1
    rw [g2] at k1; cases k1
    obtain ⟨r, l1, l2, l3⟩ := k3 k g3
    exact ⟨q, r, e, g1, l1, l2, l3, g3⟩
  refine ⟨J, E2, ⟨⟨fun k hk => .inl (hr.ext.imm k hk), hEle, hr.ext.fr, fun k hk => ?_, fun k hk => ?_⟩, ⟨⟨fun q hq => ?_, fun q q' e e' k h1 h2 h3 h4 h5 h6 => ?_, fun k hk hJ => ?_, fun k hk => ?_⟩, ?_, fun r hrn => ?_, hr.holds.nodefer⟩, hk, ⟨fun r hrn => ?_, ?_⟩⟩⟩
  · rcases hk with hk | ⟨r, _, h1, e, h2, h3⟩
    · exact hr.ext.immOld k hk
    · exact .inr (hr.ext.ownOld k ⟨r, e, h1, h2, h3⟩)
  · obtain ⟨q, r, e, _, _, h2, h3, h4⟩ := own k hk
    exact hr.ext.ownOld k ⟨r, e, h2, h3, h4⟩
  · obtain ⟨e, k1, k2, _⟩ := live q hq
    exact ⟨e, k1, k2⟩
  · obtain ⟨e1, k1, _, k3⟩ := live q h1
    obtain ⟨e2, l1, _, l3⟩ := live q' h2
    rw [h3] at k1; cases k1
    rw [h4] at l1; cases l1
    obtain ⟨r, p1, p2, p3⟩ := k3 k h5
    obtain ⟨r', p4, p5, p6⟩ := l3 k h6
    have := hr.holds.hr.apart r r' e e' k p2 p5 p3 p6 h5 h6
    subst this
    exact liveN_inj m6 h1 h2 (by rw [Nat.zero_add]; exact p1) (by rw [Nat.zero_add]; exact p4)
  · obtain ⟨q, r, e, g1, g2, g3, g4, g5⟩ := own k hk
    rcases hJ with hJ | ⟨r', f1, f2, e', f3, f4⟩
    · exact hr.holds.hr.notI k ⟨r, e, g3, g4, g5⟩ hJ
    · have := hr.holds.hr.apart r r' e e' k g3 f2 g4 f3 g5 f4
      subst this
      exact m7 r f1 (mem_liveN.2 ⟨q, g1, by rw [Nat.zero_add]; exact g2⟩)
  · rcases hk with hk | ⟨r, _, h1, e, h2, h3⟩
    · exact hr.holds.hr.old k hk
    · exact hr.holds.hr.own_lt ⟨r, e, h1, h2, h3⟩
  · -- the slots
    have hl0 : st.slots.length = a.tmps.size := Reps.len h0.slots
    refine ⟨?_, fun t x v hx hv => ?_⟩
    · simp only [headSt, length_putAll, length_havoc, hl0]; exact hk.1.symm
    · have hx' : nth (headSt st b S s).slots t = x := by rw [nth_eq, List.getD_eq_getElem?_getD, hx]; rfl
      simp only [headSt] at hx'
      rcases nth_putAll (havocF st.slots (dstsC b)) (S.slots s) t with ⟨y, h1, h2⟩ | h2
      · rw [h2] at hx'; subst hx'
        have hr' := hr.holds.slots.getD t v
        have hv' : a'.tmps.toList.getD t v = v := by rw [List.getD_eq_getElem?_getD, hv]; rfl
        rw [hv'] at hr'
        refine fitA_ok hren (by omega) hlow (fitS_at m1 h1) (slotsB_at m3 h1) (fun f hf' => hfzJ f ?_) hr'
        rw [← hfz, appM_eq]
        exact List.mem_append.2 (.inl (fzS_at h1 hf'))
      · rw [h2] at hx'
        rcases nth_havoc st.slots (dstsC b) t with ⟨h3, h4⟩ | h3
        · rw [h3] at hx'
          have hr' := h0.slots.getD t v
          rw [hx'] at hr'
          have hv' : a.tmps.toList.getD t v = v := by
            have := hk.2 t h4
            rw [List.getD_eq_getElem?_getD, Array.getElem?_toList, ← this, ← Array.getElem?_toList, hv]; rfl
          rw [hv'] at hr'
          exact hr'.mono (fun k hk => .inl (hr.ext.imm k hk)) himm hEle
        · rw [h3] at hx'; subst hx'; exact .top
  · exact hE2n r (by rw [m5] at hrn; exact hrn)
  · rw [hn] at hrn
    rw [hE2 r (by omega), hlow r hrn]
    exact hr.names.same r (by rw [hn]; exact hrn)
  · rw [m5, hn]; omega

/-- At the head of a loop, within. -/
def InLoop (P : Program) (c : Code) (Q : Exit → Act → World → Prop) (a : Act) (w : World) : Prop :=
  ∀ b k cs, ∃ e a' w', Q e a' w' ∧ Arrives P (lone (b.at a (.code c :: .inLoop c :: k)) cs w) b k cs e a' w'
theorem inLoop_wp {P : Program} {c : Code} {Q : Exit → Act → World → Prop} {a : Act} {w : World} (h : InLoop P c Q a w) : (Code.loop c).wp P Q a w := by
  intro b k cs
  obtain ⟨e, a', w', hq, harr⟩ := h b k cs
  exact ⟨e, a', w', hq, .of_steps (.one step_loop) harr⟩
theorem inLoop_peel {P : Program} {c : Code} {Q : Exit → Act → World → Prop} {a : Act} {w : World} (h : c.wp P (Exit.then (InLoop P c Q) Q) a w) : InLoop P c Q a w := by
  intro b k cs
  obtain ⟨e, a₁, w₁, hq, harr⟩ := h b (.inLoop c :: k) cs
  cases e with
  | normal =>
    obtain ⟨e₂, a₂, w₂, hq₂, harr₂⟩ := hq b k cs
    exact ⟨e₂, a₂, w₂, hq₂, .of_steps (Steps.trans harr (.one step_inLoop)) harr₂⟩
  | exit id => exact ⟨_, a₁, w₁, hq, .pass (x := .inLoop c) rfl (fun _ _ => .inl (by simp)) harr⟩
  | goto l => exact ⟨_, a₁, w₁, hq, .pass (x := .inLoop c) rfl (fun _ _ => .inl (by simp)) harr⟩
  | ret => exact ⟨_, a₁, w₁, hq, .pass (x := .inLoop c) rfl (fun _ _ => .inl (by simp)) harr⟩
  | panic ch => exact ⟨_, a₁, w₁, hq, .pass (x := .inLoop c) rfl (fun _ _ => .inl (by simp)) harr⟩
  | outgrown => exact ⟨_, a₁, w₁, hq, .pass (x := .inLoop c) rfl (fun _ _ => .inl (by simp)) harr⟩

theorem aexec_ok (hΓ : ∀ f g, Γ f = some g → GOk c f g) : ∀ (n : Nat) (code : Code) (st : St El) (K : AEx → St El → Prop), aexec cnd c Γ spec n code st K → ∀ (I : Nat → Prop) (E : Env) (a : Act) (w : World) (Q : Exit → Act → World → Prop),
    HoldS c I E st a w → (∀ e st' a' w' I' E', K e st' → Reach c code I E st a w I' E' st' a' w' → Q e.of a' w') → code.wp c.P Q a w ∧ ∀ b, code = .loop b → InLoop c.P b Q a w := by
  intro n
  induction n with
  | zero => intro code st K ho; exact ho.elim
  | succ n ih =>
    intro code st K ho I E a w Q h hQ
    cases code <;> simp only [aexec] at ho
    case skip => exact ⟨wp_skip (hQ .normal st a w I E ho (Reach.refl h)), fun b hb => by cases hb⟩
    case label l => exact ⟨wp_label (hQ .normal st a w I E ho (Reach.refl h)), fun b hb => by cases hb⟩
    case exit id => exact ⟨wp_exit (hQ (.exit id) st a w I E ho (Reach.refl h)), fun b hb => by cases hb⟩
    case ret => exact ⟨wp_ret (hQ .ret st a w I E ho (Reach.refl h)), fun b hb => by cases hb⟩
    case region id ops draw =>
      obtain ⟨st1, h1, h2⟩ := Tree.out_of_wp ho
      rw [forceSt_eq] at h2
      exact ⟨aregionX_ok hΓ h1 h (fun a' w' I' E' hr => hQ .normal st1 a' w' I' E' h2 hr), fun b hb => by cases hb⟩
    case seq x y =>
      split at ho
      · rename_i F hF
        obtain ⟨ho1, ho2⟩ := ho
        refine ⟨wp_seq ((ih x st _ ho1 I E a w _ h ?_).1), fun b hb => by cases hb⟩
        intro e1 st1 a1 w1 I1 E1 hk hr
        cases e1 with
        | normal =>
          obtain ⟨s0, hi, hm⟩ := hk
          obtain ⟨I3, E3, h3⟩ := head_ok h hr hr.keeps hm
          have ho3 := ho2 s0 hi
          rw [forceSt_eq] at ho3
          refine (ih y _ K ho3 I3 E3 a1 w1 Q h3.holds ?_).1
          intro e2 st2 a2 w2 I2 E2 hk2 hr2
          exact hQ e2 st2 a2 w2 I2 E2 hk2 (h3.trans hr2 (fun t ht => List.mem_append.2 ht))
        | exit id => exact hQ (.exit id) st1 a1 w1 I1 E1 hk (hr.weaken (fun t ht => List.mem_append.2 (.inl ht)))
        | ret => exact hQ .ret st1 a1 w1 I1 E1 hk (hr.weaken (fun t ht => List.mem_append.2 (.inl ht)))
      · refine ⟨wp_seq ((ih x st _ ho I E a w _ h ?_).1), fun b hb => by cases hb⟩
        intro e1 st1 a1 w1 I1 E1 hk hr
        cases e1 with
        | normal =>
          refine (ih y st1 K hk I1 E1 a1 w1 Q hr.holds ?_).1
          intro e2 st2 a2 w2 I2 E2 hk2 hr2
          exact hQ e2 st2 a2 w2 I2 E2 hk2 (hr.trans hr2 (fun t ht => List.mem_append.2 ht))
        | exit id => exact hQ (.exit id) st1 a1 w1 I1 E1 hk (hr.weaken (fun t ht => List.mem_append.2 (.inl ht)))
        | ret => exact hQ .ret st1 a1 w1 I1 E1 hk (hr.weaken (fun t ht => List.mem_append.2 (.inl ht)))
    case cond x y z =>
      have hx := evA_ok h.slots x
      split at ho
      · rename_i t hev
        split at ho
        · rename_i st1 hj
          rw [forceSt_eq] at ho
          exact ⟨joinS_ok hΓ hj hev h (fun a' w' I' E' hr => hQ .normal st1 a' w' I' E' ho hr), fun b hb => by cases hb⟩
        have hset : ∀ q, t = q → (⟨setX st.slots x q, st.res⟩ : St El) = st := fun q hq => by rw [setX_same hev hq]
        rw [hev] at hx
        generalize hv : a.eval x = v at hx
        cases hx
        refine ⟨wp_cond_split hv (fun ht => ?_) (fun ht => ?_), fun b hb => by cases hb⟩
        · rcases cnd_elim ho with ⟨_, ho⟩ | ⟨ht', ho⟩
          · rw [hset true ht] at ho
            exact (ih y st K ho I E a w Q h (fun e2 st2 a2 w2 I2 E2 hk hr => hQ e2 st2 a2 w2 I2 E2 hk (hr.weaken (fun t ht => List.mem_append.2 (.inl ht))))).1
          · rw [ht] at ht'; cases ht'
        · rcases cnd_elim ho with ⟨ht', ho⟩ | ⟨_, ho⟩
          · rw [ht] at ht'; cases ht'
          · rw [hset false ht] at ho
            exact (ih z st K ho I E a w Q h (fun e2 st2 a2 w2 I2 E2 hk hr => hQ e2 st2 a2 w2 I2 E2 hk (hr.weaken (fun t ht => List.mem_append.2 (.inr ht))))).1
      · rename_i hev
        rw [hev] at hx
        generalize hv : a.eval x = v at hx
        cases hx
        exact ⟨wp_cond_split hv (fun ht => (ih y st K ho.1 I E a w Q h (fun e2 st2 a2 w2 I2 E2 hk hr => hQ e2 st2 a2 w2 I2 E2 hk (hr.weaken (fun t ht => List.mem_append.2 (.inl ht))))).1)
          (fun ht => (ih z st K ho.2 I E a w Q h (fun e2 st2 a2 w2 I2 E2 hk hr => hQ e2 st2 a2 w2 I2 E2 hk (hr.weaken (fun t ht => List.mem_append.2 (.inr ht))))).1), fun b hb => by cases hb⟩
      · exact ho.elim
    case block id y =>
      refine ⟨wp_block ((ih y st _ ho I E a w _ h ?_).1), fun b hb => by cases hb⟩
      intro e1 st1 a1 w1 I1 E1 hk hr
      have hr' : Reach c (.block id y) I E st a w I1 E1 st1 a1 w1 := hr.weaken (fun _ h => h)
      cases e1 with
      | normal => exact hQ .normal st1 a1 w1 I1 E1 hk hr'
      | exit i =>
        simp only at hk
        split at hk
        · rename_i hid
          simp only [AEx.of, Exit.inBlock, hid, if_true]
          exact hQ .normal st1 a1 w1 I1 E1 hk hr'
        · rename_i hid
          simp only [AEx.of, Exit.inBlock, hid, if_false]
          exact hQ (.exit i) st1 a1 w1 I1 E1 hk hr'
      | ret => exact hQ .ret st1 a1 w1 I1 E1 hk hr'
    case loop y =>
      split at ho
      · rename_i F hS
        generalize hF : F st = S at ho
        obtain ⟨⟨s0, hi0, hm0⟩, hround⟩ := ho
        simp only [forceSt_eq] at hround
        -- the relation at the head
        have key : ∀ (k : Nat) (s : S.σ) (I1 : Nat → Prop) (E1 : Env) (a1 : Act) (w1 : World), S.inv s → S.meas s ≤ k → Reach c y I E st a w I1 E1 (headSt st y S s) a1 w1 → InLoop c.P y Q a1 w1 := by
          intro k
          induction k with
          | zero =>
            intro s I1 E1 a1 w1 hi hk hr1
            refine inLoop_peel ((ih y (headSt st y S s) _ (hround s hi) I1 E1 a1 w1 _ hr1.holds ?_).1)
            intro e2 st2 a2 w2 I2 E2 hk2 hr2
            have hr : Reach c y I E st a w I2 E2 st2 a2 w2 := hr1.trans hr2 (fun t ht => ht.elim id id)
            cases e2 with
            | normal => obtain ⟨s', g1, g2, g4⟩ := hk2; omega
            | exit id => exact hQ (.exit id) st2 a2 w2 I2 E2 hk2 (hr.weaken (fun _ h => h))
            | ret => exact hQ .ret st2 a2 w2 I2 E2 hk2 (hr.weaken (fun _ h => h))
          | succ k ihk =>
            intro s I1 E1 a1 w1 hi hk hr1
            refine inLoop_peel ((ih y (headSt st y S s) _ (hround s hi) I1 E1 a1 w1 _ hr1.holds ?_).1)
            intro e2 st2 a2 w2 I2 E2 hk2 hr2
            have hr : Reach c y I E st a w I2 E2 st2 a2 w2 := hr1.trans hr2 (fun t ht => ht.elim id id)
            cases e2 with
            | normal =>
              obtain ⟨s', g1, g2, g4⟩ := hk2
              obtain ⟨I3, E3, h3⟩ := head_ok h hr hr.keeps g4
              exact ihk s' I3 E3 a2 w2 g1 (by omega) h3
            | exit id => exact hQ (.exit id) st2 a2 w2 I2 E2 hk2 (hr.weaken (fun _ h => h))
            | ret => exact hQ .ret st2 a2 w2 I2 E2 hk2 (hr.weaken (fun _ h => h))
        obtain ⟨I0, E0, h0⟩ := head_ok (code := y) h (Reach.refl h) ⟨rfl, fun _ _ => rfl⟩ hm0
        have hin := key _ s0 I0 E0 a w hi0 (Nat.le_refl _) h0
        exact ⟨inLoop_wp hin, fun b hb => by cases hb; exact hin⟩
      · rename_i hS
        have hin : InLoop c.P y Q a w := by
          refine inLoop_peel ((ih y st _ ho I E a w _ h ?_).1)
          intro e1 st1 a1 w1 I1 E1 hk hr
          cases e1 with
          | normal =>
            refine (ih (.loop y) st1 K hk I1 E1 a1 w1 Q hr.holds ?_).2 y rfl
            intro e2 st2 a2 w2 I2 E2 hk2 hr2
            exact hQ e2 st2 a2 w2 I2 E2 hk2 (hr.trans hr2 (fun t ht => ht.elim id id))
          | exit id => exact hQ (.exit id) st1 a1 w1 I1 E1 hk (hr.weaken (fun _ h => h))
          | ret => exact hQ .ret st1 a1 w1 I1 E1 hk (hr.weaken (fun _ h => h))
        exact ⟨inLoop_wp hin, fun b hb => by cases hb; exact hin⟩
    all_goals exact ho.elim
end proofs
end Go.Ax
