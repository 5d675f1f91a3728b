/- A verified symbolic executor, part 16: loops that are told by what holds at their head. Over any program; the facts on its types are given with it. -/
import Derived.Test.YtaikpkhclnkkaaaAx15
set_option linter.unusedVariables false
set_option linter.unusedSimpArgs false
namespace Go.Ax
variable {El : TypeId → Type}

mutual
/-- All names are below 'n'. -/
def refsB (n : Nat) : AVal El → Bool
  | .ptr r _ => decide (r < n)
  | .eptr r _ _ _ => decide (r < n)
  | .cs r _ _ => decide (r < n)
  | .vec r => decide (r < n)
  | .mapr r => decide (r < n)
  | .fn _ l => refsL n l
  | .agg l => refsL n l
  | .tup l => refsL n l
  | _ => true
def refsL (n : Nat) : List (AVal El) → Bool
  | [] => true
  | a :: l => refsB n a && refsL n l
end
def refsR (n : Nat) : List (Res El) → Bool
  | [] => true
  | .cells _ cs :: l => refsL n cs && refsR n l
  | _ :: l => refsR n l

def Env.cut (E : Env) (n : Nat) : Env := fun r => if r < n then E r else none
theorem Env.cut_le (E : Env) (n : Nat) : (E.cut n).le E := by
  intro r e h
  unfold Env.cut at h
  split at h
  · exact h
  · cases h

theorem refsL_at {n : Nat} {l : List (AVal El)} (h : refsL n l = true) {i : Nat} {a : AVal El} (ha : l[i]? = some a) : refsB n a = true := by
  induction l generalizing i with
  | nil => simp at ha
  | cons b l ih =>
    simp only [refsL, Bool.and_eq_true] at h
    cases i with
    | zero => simp at ha; subst ha; exact h.1
    | succ i => simp at ha; exact ih h.2 ha

section
variable {L : Lay El} {I : Nat → Prop} {w : World} {E : Env}
/-- A value that mentions only names below 'n' stands over the names below 'n'. -/
theorem Rep.cutE {n : Nat} {a : AVal El} {v : Value} (h : Rep L I w E a v) (hb : refsB n a = true) : Rep L I w (E.cut n) a v := by
  have get : ∀ {E : Env} {r : Nat} {e : REnv}, E r = some e → decide (r < n) = true → E.cut n r = some e := fun {E r e} he hr => by
    unfold Env.cut
    rw [if_pos (of_decide_eq_true hr)]; exact he
  induction h with
  | top => exact .top
  | bool => exact .bool
  | int => exact .int
  | str => exact .str
  | nilp => exact .nilp
  | nilf => exact .nilf
  | nilm => exact .nilm
  | nils => exact .nils
  | ptr h => exact .ptr (get h (by simpa [refsB] using hb))
  | eptr h => exact .eptr (get h (by simpa [refsB] using hb))
  | lptr hi hI hh vals hc hr ih => exact .lptr hi hI hh vals hc hr
  | cs h => exact .cs (get h (by simpa [refsB] using hb))
  | fn hl h ih =>
    simp only [refsB] at hb
    exact .fn hl (fun i c v hc hv => ih i c v hc hv (refsL_at hb hc))
  | listNil => exact .listNil
  | list hI hh h1 h2 vals hc hr ih => exact .list hI hh h1 h2 vals hc hr
  | vec h h1 => exact .vec (get h (by simpa [refsB] using hb)) h1
  | mapr h => exact .mapr (get h (by simpa [refsB] using hb))
  | agg hl h h1 ih =>
    simp only [refsB] at hb
    exact .agg hl (fun i c v hc hv => ih i c v hc hv (refsL_at hb hc)) h1
  | tup hl h ih =>
    simp only [refsB] at hb
    exact .tup hl (fun i c v hc hv => ih i c v hc hv (refsL_at hb hc))

theorem Reps.cutE {n : Nat} {as : List (AVal El)} {vs : List Value} (h : Reps L I w E as vs) (hb : refsL n as = true) : Reps L I w (E.cut n) as vs :=
  ⟨h.len, fun i c v hc hv => (h.at_ i c v hc hv).cutE (refsL_at hb hc)⟩

theorem refsR_at {n : Nat} {R : List (Res El)} (h : refsR n R = true) {r : Nat} {t : TypeId} {cs : List (AVal El)} (hg : getR R r = .cells t cs) : refsL n cs = true := by
  induction R generalizing r with
  | nil => simp [getR] at hg
  | cons x R ih =>
    have h2 : refsR n R = true := by
      cases x <;> simp [refsR] at h <;> first | exact h | exact h.2
    cases r with
    | zero =>
      simp [getR] at hg; subst hg
      simp [refsR] at h; exact h.1
    | succ r => exact ih h2 hg

/-- Fewer names, fewer resources. -/
theorem HR.cutE {R R' : List (Res El)} {n : Nat} (h : HR L I w E R) (hR : ∀ r, getR R' r ≠ .dead → getR R' r = getR R r) (hn : ∀ r, getR R' r ≠ .dead → r < n) (hb : refsR n R' = true) : HR L I w (E.cut n) R' := by
  have h' := h.less hR
  have get : ∀ r e, r < n → E r = some e → E.cut n r = some e := fun r e hr he => by unfold Env.cut; rw [if_pos hr]; exact he
  refine ⟨fun r hr => ?_, fun r r' e e' b h1 h2 h3 h4 h5 h6 => h'.apart r r' e e' b h1 h2 (E.cut_le n _ _ h3) (E.cut_le n _ _ h4) h5 h6, fun b hb' => h'.notI b ?_, h'.old⟩
  · obtain ⟨e, h1, h2⟩ := h'.res r hr
    refine ⟨e, get r e (hn r hr) h1, ?_⟩
    cases hg : getR R' r with
    | dead => trivial
    | cells t cs =>
      rw [hg] at h2
      obtain ⟨b, vs, k1, k2, k3, k4⟩ := h2
      exact ⟨b, vs, k1, k2, k3.cutE (refsR_at hb hg), k4⟩
    | vec t xs => rw [hg] at h2; exact h2
  · obtain ⟨r, e, h1, h2, h3⟩ := hb'
    exact ⟨r, e, h1, E.cut_le n _ _ h2, h3⟩
end

/-- A told loop: what its carried slots and resources are at the head, what holds, and what goes down. -/
structure LSpec (El : TypeId → Type) where
  σ : Type
  slots : σ → List (Nat × AVal El)
  res : σ → List (Nat × Res El)
  inv : σ → Prop
  meas : σ → Nat

def havocF : List (AVal El) → List Tmp → List (AVal El)
  | l, [] => l
  | l, d :: ds => havocF (setF l d .top) ds
def putAll : List (AVal El) → List (Nat × AVal El) → List (AVal El)
  | l, [] => l
  | l, (d, a) :: ds => putAll (setF l d a) ds

def headSt (st : St El) (b : Code) (S : LSpec El) (s : S.σ) : St El := ⟨putAll (havocF st.slots (dstsC b)) (S.slots s), updR st.res (S.res s)⟩

/-- The carried slots are as told. -/
def matchS (slots : List (AVal El)) : List (Nat × AVal El) → Prop
  | [] => True
  | (d, a) :: ds => nth slots d = a ∧ matchS slots ds
/-- The resources are as told; later ones are let go. -/
def matchR : List (Res El) → List (Res El) → Prop
  | _, [] => True
  | [], _ :: _ => False
  | x :: xs, y :: ys => x = y ∧ matchR xs ys
def slotsB (n : Nat) : List (Nat × AVal El) → Bool
  | [] => true
  | (_, a) :: ds => refsB n a && slotsB n ds
def inDsts (ds : List Tmp) : List (Nat × AVal El) → Bool
  | [] => true
  | (d, _) :: l => ds.contains d && inDsts ds l

def matchSt (n : Nat) (st : St El) (S : LSpec El) (hd : St El) (s : S.σ) : Prop :=
  matchS st.slots (S.slots s) ∧ matchR st.res hd.res ∧ (slotsB n (S.slots s) && refsR n hd.res && (lenR hd.res == n)) = true

section defs
variable (C : Bool → Prop → Prop → Prop) (c : Cx El) (Γ : FuncId → Option (GSpec El)) (spec : Nat → Option (St El → LSpec El))

/-- What is to be proved so that a piece of code ends in 'K'. -/
def aexec : Nat → Code → St El → (AEx → St El → Prop) → Prop
  | 0, _, _, _ => False
  | n + 1, code, st, K => match code with
    | .region _ ops draw => (aregionX c Γ ops draw st).wp C (fun st' => forceSt st' fun st' => K .normal st')
    | .seq a b => aexec n a st fun e st' => match e with
      | .normal => aexec n b st' K
      | e => K e st'
    | .cond x a b => match evA st.slots x with
      | .bool t => match joinS t a b st with
        | some st' => forceSt st' fun st' => K .normal st'
        | none => C t (aexec n a ⟨setX st.slots x true, st.res⟩ K) (aexec n b ⟨setX st.slots x false, st.res⟩ K)
      | _ => False
    | .block id b => aexec n b st fun e st' => match e with
      | .exit i => if i = id then K .normal st' else K (.exit i) st'
      | e => K e st'
    | .loop b => match (keyOf b).bind spec with
      | some F => (∃ s0 : (F st).σ, (F st).inv s0 ∧ matchSt (lenR st.res) st (F st) (headSt st b (F st) s0) s0) ∧
          ∀ s : (F st).σ, (F st).inv s → forceSt (headSt st b (F st) s) fun h => aexec n b h fun e st' => match e with
            | .normal => ∃ s' : (F st).σ, (F st).inv s' ∧ (F st).meas s' < (F st).meas s ∧ matchSt (lenR st.res) st' (F st) (headSt st b (F st) s') s'
            | e => K e st'
      | none => aexec n b st fun e st' => match e with
        | .normal => aexec n (.loop b) st' K
        | e => K e st'
    | .exit id => K (.exit id) st
    | .ret => K .ret st
    | .skip => K .normal st
    | .label _ => K .normal st
    | _ => False
end defs

section proofs
variable {c : Cx El} {Γ : FuncId → Option (GSpec El)} {spec : Nat → Option (St El → LSpec El)}

theorem length_havoc (l : List (AVal El)) (ds : List Tmp) : (havocF l ds).length = l.length := by
  induction ds generalizing l with
  | nil => rfl
  | cons d ds ih => simp [havocF, ih, setF_eq]
theorem nth_havoc (l : List (AVal El)) (ds : List Tmp) (t : Tmp) : nth (havocF l ds) t = nth l t ∧ t ∉ ds ∨ nth (havocF l ds) t = .top := by
  induction ds generalizing l with
  | nil => exact .inl ⟨rfl, by simp⟩
  | cons d ds ih =>
    simp only [havocF]
    rcases ih (setF l d .top) with ⟨h1, h2⟩ | h
    · rw [h1]
      have := nth_setT l (some d) .top t
      simp only [setT] at this
      rw [this]
      by_cases hd : d = t
      · subst hd
        by_cases hlt : d < l.length
        · rw [if_pos ⟨rfl, hlt⟩]; exact .inr rfl
        · rw [if_neg (fun h => hlt h.2)]
          right
          rw [nth_eq, List.getD_eq_getElem?_getD, List.getElem?_eq_none (Nat.le_of_not_lt hlt)]; rfl
      · rw [if_neg (fun h => hd (by simpa using h.1))]
        exact .inl ⟨rfl, by simp [Ne.symm hd, h2]⟩
    · exact .inr h

theorem length_putAll (l : List (AVal El)) (ds : List (Nat × AVal El)) : (putAll l ds).length = l.length := by
  induction ds generalizing l with
  | nil => rfl
  | cons d ds ih => obtain ⟨d, a⟩ := d; simp [putAll, ih, setF_eq]

/-- What a head slot is: a carried one, an untouched one, or unknown. -/
theorem nth_putAll (l : List (AVal El)) (ds : List (Nat × AVal El)) (t : Tmp) : (∃ a, (t, a) ∈ ds ∧ nth (putAll l ds) t = a) ∨ nth (putAll l ds) t = nth l t := by
  induction ds generalizing l with
  | nil => exact .inr rfl
  | cons d ds ih =>
    obtain ⟨d, a⟩ := d
    simp only [putAll]
    rcases ih (setF l d a) with ⟨b, h1, h2⟩ | h
    · exact .inl ⟨b, List.mem_cons_of_mem _ h1, h2⟩
    · rw [h]
      have := nth_setT l (some d) a t
      simp only [setT] at this
      rw [this]
      by_cases hd : d = t ∧ t < l.length
      · rw [if_pos ⟨by rw [hd.1], hd.2⟩]
        exact .inl ⟨a, by rw [← hd.1]; exact List.mem_cons_self .., rfl⟩
      · rw [if_neg (fun h => hd ⟨by simpa using h.1, h.2⟩)]
        exact .inr rfl

theorem matchS_at {slots : List (AVal El)} {ds : List (Nat × AVal El)} (h : matchS slots ds) {t : Nat} {a : AVal El} (hm : (t, a) ∈ ds) : nth slots t = a := by
  induction ds with
  | nil => cases hm
  | cons d ds ih =>
    obtain ⟨d, b⟩ := d
    rcases List.mem_cons.1 hm with hm | hm
    · cases hm; exact h.1
    · exact ih h.2 hm
theorem slotsB_at {n : Nat} {ds : List (Nat × AVal El)} (h : slotsB n ds = true) {t : Nat} {a : AVal El} (hm : (t, a) ∈ ds) : refsB n a = true := by
  induction ds with
  | nil => cases hm
  | cons d ds ih =>
    obtain ⟨d, b⟩ := d
    simp only [slotsB, Bool.and_eq_true] at h
    rcases List.mem_cons.1 hm with hm | hm
    · cases hm; exact h.1
    · exact ih h.2 hm
theorem matchR_at {R R' : List (Res El)} (h : matchR R R') {r : Nat} (hr : getR R' r ≠ .dead) : getR R' r = getR R r := by
  induction R' generalizing R r with
  | nil => simp [getR] at hr
  | cons y ys ih =>
    cases R with
    | nil => exact h.elim
    | cons x xs =>
      cases r with
      | zero => simp only [getR]; exact h.1.symm
      | succ r => exact ih h.2 hr

/-- The head of a told loop, reached. -/
theorem head_ok {code : Code} {I I' : Nat → Prop} {E E' : Env} {st st' : St El} {a a' : Act} {w w' : World} {b : Code} {S : LSpec El} {s : S.σ} (h0 : HoldS c I E st a w)
    (hr : Reach c code I E st a w I' E' st' a' w') (hk : KeepsC b a a') (hm : matchSt (lenR st.res) st' S (headSt st b S s) s) :
    Reach c b I E st a w I' (E'.cut (lenR st.res)) (headSt st b S s) a' w' := by
  obtain ⟨m1, m2, m3⟩ := hm
  simp only [Bool.and_eq_true, beq_iff_eq] at m3
  obtain ⟨⟨m3, m4⟩, m5⟩ := m3
  have hdeadR : ∀ r, getR (headSt st b S s).res r ≠ .dead → r < lenR st.res := fun r hrd => by
    rcases Nat.lt_or_ge r (lenR st.res) with h | h
    · exact h
    · exact absurd (getR_ge (by rw [m5]; exact h)) hrd
  have hE : E.le (E'.cut (lenR st.res)) := by
    intro r e he
    unfold Env.cut
    rcases Nat.lt_or_ge r (lenR st.res) with h | h
    · rw [if_pos h]; exact hr.ext.env r e he
    · rw [h0.free r h] at he; cases he
  have himm := h0.hr.immSame hr.ext
  refine ⟨⟨hr.ext.imm, hE, hr.ext.fr, hr.ext.immOld, fun k hk' => hr.ext.ownOld k ?_⟩, ⟨hr.holds.hr.cutE (fun r hrd => matchR_at m2 hrd) hdeadR m4, ?_, fun r hrn => ?_, hr.holds.nodefer⟩, hk, ⟨fun r hrn => ?_, by rw [m5]; exact Nat.le_refl _⟩⟩
  · obtain ⟨r, e, g1, g2, g3⟩ := hk'
    exact ⟨r, e, by rw [← matchR_at m2 g1]; exact g1, E'.cut_le _ _ _ g2, g3⟩
  · -- the slots
    have hl0 : st.slots.length = a.tmps.size := Reps.len h0.slots
    refine ⟨?_, fun t x v hx hv => ?_⟩
    · simp only [headSt, length_putAll, length_havoc, hl0]; exact hk.1.symm
    · have hx' : nth (headSt st b S s).slots t = x := by rw [nth_eq, List.getD_eq_getElem?_getD, hx]; rfl
      simp only [headSt] at hx'
      rcases nth_putAll (havocF st.slots (dstsC b)) (S.slots s) t with ⟨y, h1, h2⟩ | h2
      · rw [h2] at hx'; subst hx'
        have hr' := hr.holds.slots.getD t v
        rw [matchS_at m1 h1] at hr'
        have hv' : a'.tmps.toList.getD t v = v := by rw [List.getD_eq_getElem?_getD, hv]; rfl
        rw [hv'] at hr'
        exact hr'.cutE (slotsB_at m3 h1)
      · rw [h2] at hx'
        rcases nth_havoc st.slots (dstsC b) t with ⟨h3, h4⟩ | h3
        · rw [h3] at hx'
          have hr' := h0.slots.getD t v
          rw [hx'] at hr'
          have hv' : a.tmps.toList.getD t v = v := by
            have := hk.2 t h4
            rw [List.getD_eq_getElem?_getD, Array.getElem?_toList, ← this, ← Array.getElem?_toList, hv]; rfl
          rw [hv'] at hr'
          exact hr'.mono hr.ext.imm himm hE
        · rw [h3] at hx'; subst hx'; exact .top
  · unfold Env.cut
    rw [m5] at hrn
    rw [if_neg (by omega)]
  · unfold Env.cut
    rw [if_pos hrn]
    exact hr.names.same r hrn

theorem aexec_ok (hΓ : ∀ f g, Γ f = some g → GOk c f g) : ∀ (n : Nat) (code : Code) (st : St El) (K : AEx → St El → Prop), aexec cnd c Γ spec n code st K → ∀ (I : Nat → Prop) (E : Env) (a : Act) (w : World) (Q : Exit → Act → World → Prop),
    HoldS c I E st a w → (∀ e st' a' w' I' E', K e st' → Reach c code I E st a w I' E' st' a' w' → Q e.of a' w') → code.wp c.P Q a w ∧ ∀ b, code = .loop b → (keyOf b).bind spec = none → Code.rounds c.P b Q n a w := by
  intro n
  induction n with
  | zero => intro code st K ho; exact ho.elim
  | succ n ih =>
    intro code st K ho I E a w Q h hQ
    cases code <;> simp only [aexec] at ho
    case skip => exact ⟨wp_skip (hQ .normal st a w I E ho (Reach.refl h)), fun b hb => by cases hb⟩
    case label l => exact ⟨wp_label (hQ .normal st a w I E ho (Reach.refl h)), fun b hb => by cases hb⟩
    case exit id => exact ⟨wp_exit (hQ (.exit id) st a w I E ho (Reach.refl h)), fun b hb => by cases hb⟩
    case ret => exact ⟨wp_ret (hQ .ret st a w I E ho (Reach.refl h)), fun b hb => by cases hb⟩
    case region id ops draw =>
      obtain ⟨st1, h1, h2⟩ := Tree.out_of_wp ho
      rw [forceSt_eq] at h2
      exact ⟨aregionX_ok hΓ h1 h (fun a' w' I' E' hr => hQ .normal st1 a' w' I' E' h2 hr), fun b hb => by cases hb⟩
    case seq x y =>
      refine ⟨wp_seq ((ih x st _ ho I E a w _ h ?_).1), fun b hb => by cases hb⟩
      intro e1 st1 a1 w1 I1 E1 hk hr
      cases e1 with
      | normal =>
        refine (ih y st1 K hk I1 E1 a1 w1 Q hr.holds ?_).1
        intro e2 st2 a2 w2 I2 E2 hk2 hr2
        exact hQ e2 st2 a2 w2 I2 E2 hk2 (hr.trans hr2 (fun t ht => List.mem_append.2 ht))
      | exit id => exact hQ (.exit id) st1 a1 w1 I1 E1 hk (hr.weaken (fun t ht => List.mem_append.2 (.inl ht)))
      | ret => exact hQ .ret st1 a1 w1 I1 E1 hk (hr.weaken (fun t ht => List.mem_append.2 (.inl ht)))
    case cond x y z =>
      have hx := evA_ok h.slots x
      split at ho
      · rename_i t hev
        split at ho
        · rename_i st1 hj
          rw [forceSt_eq] at ho
          exact ⟨joinS_ok hΓ hj hev h (fun a' w' I' E' hr => hQ .normal st1 a' w' I' E' ho hr), fun b hb => by cases hb⟩
        have hset : ∀ q, t = q → (⟨setX st.slots x q, st.res⟩ : St El) = st := fun q hq => by rw [setX_same hev hq]
        rw [hev] at hx
        generalize hv : a.eval x = v at hx
        cases hx
        refine ⟨wp_cond_split hv (fun ht => ?_) (fun ht => ?_), fun b hb => by cases hb⟩
        · rcases cnd_elim ho with ⟨_, ho⟩ | ⟨ht', ho⟩
          · rw [hset true ht] at ho
            exact (ih y st K ho I E a w Q h (fun e2 st2 a2 w2 I2 E2 hk hr => hQ e2 st2 a2 w2 I2 E2 hk (hr.weaken (fun t ht => List.mem_append.2 (.inl ht))))).1
          · rw [ht] at ht'; cases ht'
        · rcases cnd_elim ho with ⟨ht', ho⟩ | ⟨_, ho⟩
          · rw [ht] at ht'; cases ht'
          · rw [hset false ht] at ho
            exact (ih z st K ho I E a w Q h (fun e2 st2 a2 w2 I2 E2 hk hr => hQ e2 st2 a2 w2 I2 E2 hk (hr.weaken (fun t ht => List.mem_append.2 (.inr ht))))).1
      · exact ho.elim
    case block id y =>
      refine ⟨wp_block ((ih y st _ ho I E a w _ h ?_).1), fun b hb => by cases hb⟩
      intro e1 st1 a1 w1 I1 E1 hk hr
      have hr' : Reach c (.block id y) I E st a w I1 E1 st1 a1 w1 := hr.weaken (fun _ h => h)
      cases e1 with
      | normal => exact hQ .normal st1 a1 w1 I1 E1 hk hr'
      | exit i =>
        simp only at hk
        split at hk
        · rename_i hid
          simp only [AEx.of, Exit.inBlock, hid, if_true]
          exact hQ .normal st1 a1 w1 I1 E1 hk hr'
        · rename_i hid
          simp only [AEx.of, Exit.inBlock, hid, if_false]
          exact hQ (.exit i) st1 a1 w1 I1 E1 hk hr'
      | ret => exact hQ .ret st1 a1 w1 I1 E1 hk hr'
    case loop y =>
      split at ho
      · rename_i F hS
        generalize hF : F st = S at ho
        refine ⟨?_, fun b hb hn => by cases hb; rw [hS] at hn; cases hn⟩
        obtain ⟨⟨s0, hi0, hm0⟩, hround⟩ := ho
        simp only [forceSt_eq] at hround
        -- the relation at the head
        refine wp_loop_ghost (fun k a1 w1 => ∃ (s : S.σ) (I1 : Nat → Prop) (E1 : Env), S.inv s ∧ S.meas s ≤ k ∧ Reach c y I E st a w I1 E1 (headSt st y S s) a1 w1) (S.meas s0)
          ⟨s0, I, _, hi0, Nat.le_refl _, head_ok (code := y) h (Reach.refl h) ⟨rfl, fun _ _ => rfl⟩ hm0⟩ ?_
        rintro k a1 w1 ⟨s, I1, E1, hi, hk, hr1⟩
        refine (ih y (headSt st y S s) _ (hround s hi) I1 E1 a1 w1 _ hr1.holds ?_).1
        intro e2 st2 a2 w2 I2 E2 hk2 hr2
        have hr : Reach c y I E st a w I2 E2 st2 a2 w2 := hr1.trans hr2 (fun t ht => ht.elim id id)
        cases e2 with
        | normal =>
          obtain ⟨s', g1, g2, g4⟩ := hk2
          exact ⟨S.meas s', by omega, s', I2, _, g1, Nat.le_refl _, head_ok h hr hr.keeps g4⟩
        | exit id => exact hQ (.exit id) st2 a2 w2 I2 E2 hk2 (hr.weaken (fun _ h => h))
        | ret => exact hQ .ret st2 a2 w2 I2 E2 hk2 (hr.weaken (fun _ h => h))
      · rename_i hS
        have hrounds : Code.rounds c.P y Q (n + 1) a w := by
          rw [rounds_succ]
          refine (ih y st _ ho I E a w _ h ?_).1
          intro e1 st1 a1 w1 I1 E1 hk hr
          cases e1 with
          | normal =>
            refine (ih (.loop y) st1 K hk I1 E1 a1 w1 Q hr.holds ?_).2 y rfl hS
            intro e2 st2 a2 w2 I2 E2 hk2 hr2
            exact hQ e2 st2 a2 w2 I2 E2 hk2 (hr.trans hr2 (fun t ht => ht.elim id id))
          | exit id => exact hQ (.exit id) st1 a1 w1 I1 E1 hk (hr.weaken (fun _ h => h))
          | ret => exact hQ .ret st1 a1 w1 I1 E1 hk (hr.weaken (fun _ h => h))
        exact ⟨wp_loop_rounds (n + 1) hrounds, fun b hb _ => by cases hb; exact hrounds⟩
    all_goals exact ho.elim
end proofs
end Go.Ax
