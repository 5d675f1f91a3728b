/- A verified symbolic executor, part 13: a region that draws the order of its operations comes to one state, whatever the order. Over any program; the facts on its types are given with it. -/
import Derived.Test.YtbadejabphdkiaaAx12
set_option linter.unusedVariables false
set_option linter.unusedSimpArgs false
namespace Go.Ax
variable {El : TypeId → Type}

section frame
variable {L : Lay El} {I I' : Nat → Prop} {E E' : Env} {R Rm : List (Res El)} {w w' : World}

theorem HR.congr {R' : List (Res El)} (h : HR L I w E R) (hR : ∀ r, getR R' r = getR R r) : HR L I w E R' where
  res r hr := by rw [hR] at hr ⊢; exact h.res r hr
  apart r r' e e' b h1 h2 h3 h4 h5 h6 := h.apart r r' e e' b (by rwa [hR] at h1) (by rwa [hR] at h2) h3 h4 h5 h6
  notI b hb := h.notI b (by obtain ⟨r, e, h1, h2, h3⟩ := hb; exact ⟨r, e, by rwa [hR] at h1, h2, h3⟩)
  old := h.old

/-- Fewer resources. -/
theorem HR.less (h : HR L I w E R) (hR : ∀ r, getR Rm r ≠ .dead → getR Rm r = getR R r) : HR L I w E Rm where
  res r hr := by
    have := hR r hr
    rw [this] at hr ⊢
    exact h.res r hr
  apart r r' e e' b h1 h2 h3 h4 h5 h6 := h.apart r r' e e' b (by rw [← hR r h1]; exact h1) (by rw [← hR r' h2]; exact h2) h3 h4 h5 h6
  notI b hb := h.notI b (by obtain ⟨r, e, h1, h2, h3⟩ := hb; exact ⟨r, e, by rw [← hR r h1]; exact h1, h2, h3⟩)
  old := h.old

/-- An operation that was carried out over fewer resources: the others stand beside it. -/
theorem HR.frame (h : HR L I w E R) (hR : ∀ r, getR Rm r ≠ .dead → getR Rm r = getR R r) {base : Nat} {upd : List (Nat × Res El)} {a : AVal El} {v : Value} (hp : Post L I E Rm w base upd a v w' I' E')
    (hu : ∀ r, Dom upd r → (base ≤ r ∧ E r = none) ∨ getR Rm r ≠ .dead) : Post L I E R w base upd a v w' I' E' := by
  have hm := h.less hR
  have ownM : ∀ b, Own E Rm b → Own E R b := by
    rintro b ⟨r, e, h1, h2, h3⟩
    exact ⟨r, e, by rw [← hR r h1]; exact h1, h2, h3⟩
  -- what a resource is afterwards: one of those carried along, or one left alone
  have split : ∀ r, (getR (updR R upd) r = getR (updR Rm upd) r ∧ (Dom upd r ∨ getR Rm r ≠ .dead)) ∨ (¬ Dom upd r ∧ getR Rm r = .dead ∧ getR (updR R upd) r = getR R r) := by
    intro r
    by_cases hd : Dom upd r
    · exact .inl ⟨getR_updR_dom hd _ _, .inl hd⟩
    · by_cases hrm : getR Rm r = .dead
      · exact .inr ⟨hd, hrm, getR_updR_not hd _⟩
      · exact .inl ⟨by rw [getR_updR_not hd, getR_updR_not hd, hR r hrm], .inr hrm⟩
  have aside : ∀ r, ¬ Dom upd r → getR Rm r = .dead → getR R r ≠ .dead → ∀ e, E r = some e → ∀ b, e.blk = some b → ¬ Own E Rm b := by
    intro r hd hrm hr e he b hb ⟨r', e', h1, h2, h3⟩
    have := h.apart r r' e e' b hr (by rw [← hR r' h1]; exact h1) he h2 hb h3
    subst this
    exact h1 hrm
  have keepI : ∀ b, I b → w'.heap[b]? = w.heap[b]? := hm.immSame hp.ext
  have ownSplit : ∀ b, Own E' (updR R upd) b → Own E' (updR Rm upd) b ∨ ∃ r e, ¬ Dom upd r ∧ getR Rm r = .dead ∧ getR R r ≠ .dead ∧ E r = some e ∧ e.blk = some b := by
    rintro b ⟨r, e, h1, h2, h3⟩
    rcases split r with ⟨g1, _⟩ | ⟨g1, g2, g3⟩
    · exact .inl ⟨r, e, by rw [← g1]; exact h1, h2, h3⟩
    · rw [g3] at h1
      obtain ⟨e', k1, _⟩ := h.res r h1
      have := hp.ext.env r e' k1
      rw [h2] at this; cases this
      exact .inr ⟨r, e, g1, g2, h1, k1, h3⟩
  have ownNew : ∀ b, Own E' (updR R upd) b → Own E R b ∨ w.heap.size ≤ b := by
    intro b hb
    rcases ownSplit b hb with hb | ⟨r, e, g1, g2, g3, g4, g5⟩
    · exact (hp.ext.ownOld b hb).imp (ownM b) id
    · exact .inl ⟨r, e, g3, g4, g5⟩
  refine ⟨⟨hp.ext.imm, hp.ext.env, hp.ext.fr.weaken ownM, fun b hb => (hp.ext.immOld b hb).imp id (Or.imp (ownM b) id), ownNew⟩, ⟨?_, ?_, ?_, hp.hr.old⟩, hp.rep, hp.names⟩
  · intro r hr
    rcases split r with ⟨g1, _⟩ | ⟨g1, g2, g3⟩
    · rw [g1] at hr ⊢; exact hp.hr.res r hr
    · rw [g3] at hr ⊢
      obtain ⟨e, k1, k2⟩ := h.res r hr
      exact ⟨e, hp.ext.env _ _ k1, k2.keep hp.ext.imm keepI hp.ext.env (fun b hb hlt => hp.ext.fr.block b hlt (aside r g1 g2 hr e k1 b hb))⟩
  · intro r1 r2 e1 e2 b h1 h2 h3 h4 h5 h6
    rcases split r1 with ⟨g1, g1'⟩ | ⟨g1, g2, g3⟩
    · rw [g1] at h1
      rcases split r2 with ⟨k1, k1'⟩ | ⟨k1, k2, k3⟩
      · rw [k1] at h2; exact hp.hr.apart r1 r2 e1 e2 b h1 h2 h3 h4 h5 h6
      · rw [k3] at h2
        obtain ⟨e', q1, q2⟩ := h.res r2 h2
        have := hp.ext.env r2 e' q1
        rw [h4] at this; cases this
        have hlt := q2.blk_lt h2 h6
        rcases hp.ext.ownOld b ⟨r1, e1, h1, h3, h5⟩ with ho | ho
        · exact absurd ho (aside r2 k1 k2 h2 e2 q1 b h6)
        · omega
    · rw [g3] at h1
      obtain ⟨e', q1, q2⟩ := h.res r1 h1
      have := hp.ext.env r1 e' q1
      rw [h3] at this; cases this
      rcases split r2 with ⟨k1, k1'⟩ | ⟨k1, k2, k3⟩
      · rw [k1] at h2
        have hlt := q2.blk_lt h1 h5
        rcases hp.ext.ownOld b ⟨r2, e2, h2, h4, h6⟩ with ho | ho
        · exact absurd ho (aside r1 g1 g2 h1 e1 q1 b h5)
        · omega
      · rw [k3] at h2
        obtain ⟨e'', p1, p2⟩ := h.res r2 h2
        have := hp.ext.env r2 e'' p1
        rw [h4] at this; cases this
        exact h.apart r1 r2 e1 e2 b h1 h2 q1 p1 h5 h6
  · intro b hb hI
    rcases ownSplit b hb with hb | ⟨r, e, g1, g2, g3, g4, g5⟩
    · exact hp.hr.notI b hb hI
    · rcases hp.ext.immOld b hI with h1 | h1 | h1
      · exact h.notI b ⟨r, e, g3, g4, g5⟩ h1
      · exact aside r g1 g2 g3 e g4 b g5 h1
      · have := h.own_lt ⟨r, e, g3, g4, g5⟩
        omega
end frame

/-- What the trace says of one operation. -/
structure Fact (c : Cx El) (Γ : FuncId → Option (GSpec El)) (all : List Oper) (st : St El) (tr : List (Ent El)) (j : Nat) (o : Oper) (e : Ent El) : Prop where
  run : (∃ b t, o.guard = some (b, t) ∧ (∃ s x, dstOf all b = some s ∧ evM all (ancs all) st.slots (tr.take j) j (.tmp s) = .bool x ∧ (x == t) = false) ∧ e.val = .top ∧ e.upd = []) ∨
    ((o.guard = none ∨ ∃ b t, o.guard = some (b, t) ∧ ∃ s x, dstOf all b = some s ∧ evM all (ancs all) st.slots (tr.take j) j (.tmp s) = .bool x ∧ (x == t) = true) ∧
      (aop c Γ (resF (natAt (ancs all) j).testBit (tr.take j) 0 st.res) e.base (evM all (ancs all) st.slots (tr.take j) j) o.op).Out (e.val, e.upd) ∧
      updOk (resF (natAt (ancs all) j).testBit (tr.take j) 0 st.res) e.base e.upd = true)

theorem setV_same {tr : List (Ent El)} {i : Nat} {e : Ent El} {q : Bool} (h : entAt tr i = some e) (he : e.val = .bool q) : setV tr i q = tr := by
  induction tr generalizing i with
  | nil => cases h
  | cons x tr ih =>
    cases i with
    | zero =>
      simp only [entAt, Option.some.injEq] at h; subst h
      cases x
      simp only at he; subst he
      rfl
    | succ i =>
      simp only [entAt] at h
      simp only [setV, ih h]
theorem setTr_same {all : List Oper} {an : List Nat} {slots : List (AVal El)} {tr : List (Ent El)} {j : Nat} {t : Tmp} {q : Bool} (h : evM all an slots tr j (.tmp t) = .bool q) : setTr all an j t tr q = tr := by
  simp only [evM] at h
  unfold setTr
  cases hw : writerOf all t 0 with
  | none => rfl
  | some i =>
    rw [hw] at h
    simp only at h ⊢
    cases hb : (natAt an j).testBit i with
    | false => rfl
    | true =>
      rw [hb, if_pos rfl] at h
      cases he : entAt tr i with
      | none => rw [he] at h; cases h
      | some e => rw [he] at h; exact setV_same he h

theorem traceD_spec {c : Cx El} {Γ : FuncId → Option (GSpec El)} {all : List Oper} {st : St El} {l : List Oper} {j base : Nat} {tr tr' : List (Ent El)} (hlen : tr.length = j) (ho : (traceD c Γ all (ancs all) st l j base tr).Out tr') :
    ∃ ext, tr' = tr ++ ext ∧ ext.length = l.length ∧ (∀ (k : Nat) (o : Oper) (e : Ent El), l[k]? = some o → ext[k]? = some e → Fact c Γ all st tr' (j + k) o e ∧ base ≤ e.base) ∧
      (∀ (k k' : Nat) (e e' : Ent El), ext[k]? = some e → ext[k']? = some e' → k < k' → ∀ r, Dom e.upd r → r < e'.base) ∧
      (∀ (k k' : Nat) (e e' : Ent El), ext[k]? = some e → ext[k']? = some e' → k < k' → e.base ≤ e'.base) := by
  induction l generalizing j base tr with
  | nil =>
    simp only [traceD, Tree.Out] at ho; subst ho
    exact ⟨[], by simp, rfl, fun k o e h => by simp at h, fun k k' e e' h => by simp at h, fun k k' e e' h => by simp at h⟩
  | cons o rest ih =>
    -- one step, whatever its entry
    have step : ∀ (x : Ent El) (base' : Nat), base ≤ base' → (∀ r, Dom x.upd r → r < base') → x.base = base → (∀ tr', tr'.take j = tr → Fact c Γ all st tr' j o x) →
        (traceD c Γ all (ancs all) st rest (j + 1) base' (tr ++ [x])).Out tr' → ∃ ext, tr' = tr ++ ext ∧ ext.length = (o :: rest).length ∧
          (∀ (k : Nat) (o' : Oper) (e : Ent El), (o :: rest)[k]? = some o' → ext[k]? = some e → Fact c Γ all st tr' (j + k) o' e ∧ base ≤ e.base) ∧
          (∀ (k k' : Nat) (e e' : Ent El), ext[k]? = some e → ext[k']? = some e' → k < k' → ∀ r, Dom e.upd r → r < e'.base) ∧
          (∀ (k k' : Nat) (e e' : Ent El), ext[k]? = some e → ext[k']? = some e' → k < k' → e.base ≤ e'.base) := by
      intro x base' hb hd hx hf ho'
      obtain ⟨ext, h1, h2, h3, h4, h5⟩ := ih (by simp [hlen]) ho'
      refine ⟨x :: ext, by simp [h1], by simp [h2], ?_, ?_, ?_⟩
      · intro k o' e hk he
        cases k with
        | zero =>
          simp at hk he; subst hk; subst he
          exact ⟨hf tr' (by rw [h1, List.append_assoc, ← hlen, List.take_left]), by omega⟩
        | succ k =>
          simp at hk he
          have := h3 k o' e hk he
          rw [show j + (k + 1) = j + 1 + k from by omega]
          exact ⟨this.1, by omega⟩
      · intro k k' e e' hk hk' hlt r hr
        cases k' with
        | zero => omega
        | succ k' =>
          simp at hk'
          cases k with
          | zero =>
            simp at hk; subst hk
            have hlt' : k' < rest.length := by
              rcases Nat.lt_or_ge k' ext.length with h | h
              · omega
              · rw [List.getElem?_eq_none h] at hk'; cases hk'
            have := (h3 k' rest[k'] e' (List.getElem?_eq_getElem hlt') hk').2
            have := hd r hr
            omega
          | succ k =>
            simp at hk
            exact h4 k k' e e' hk hk' (by omega) r hr
      · intro k k' e e' hk hk' hlt
        cases k' with
        | zero => omega
        | succ k' =>
          simp at hk'
          cases k with
          | zero =>
            simp at hk; subst hk
            have hlt' : k' < rest.length := by
              rcases Nat.lt_or_ge k' ext.length with h | h
              · omega
              · rw [List.getElem?_eq_none h] at hk'; cases hk'
            have := (h3 k' rest[k'] e' (List.getElem?_eq_getElem hlt') hk').2
            omega
          | succ k =>
            simp at hk
            exact h5 k k' e e' hk hk' (by omega)
    have wanted : ∀ (hg : o.guard = none ∨ ∃ b t, o.guard = some (b, t) ∧ ∃ s x, dstOf all b = some s ∧ evM all (ancs all) st.slots tr j (.tmp s) = .bool x ∧ (x == t) = true),
        ((aop c Γ (resF (natAt (ancs all) j).testBit tr 0 st.res) base (evM all (ancs all) st.slots tr j) o.op).bind fun y =>
          if updOk (resF (natAt (ancs all) j).testBit tr 0 st.res) base y.2 = true then traceD c Γ all (ancs all) st rest (j + 1) (maxUpd base y.2) (tr ++ [⟨y.1, y.2, base⟩]) else .fail).Out tr' →
        ∃ ext, tr' = tr ++ ext ∧ ext.length = (o :: rest).length ∧
          (∀ (k : Nat) (o' : Oper) (e : Ent El), (o :: rest)[k]? = some o' → ext[k]? = some e → Fact c Γ all st tr' (j + k) o' e ∧ base ≤ e.base) ∧
          (∀ (k k' : Nat) (e e' : Ent El), ext[k]? = some e → ext[k']? = some e' → k < k' → ∀ r, Dom e.upd r → r < e'.base) ∧
          (∀ (k k' : Nat) (e e' : Ent El), ext[k]? = some e → ext[k']? = some e' → k < k' → e.base ≤ e'.base) := by
      intro hg ho
      rw [Tree.out_bind] at ho
      obtain ⟨y, h1, h2⟩ := ho
      split at h2
      · rename_i hu
        obtain ⟨m1, m2⟩ := maxUpd_spec y.2 base
        refine step ⟨y.1, y.2, base⟩ _ m1 m2 rfl (fun tr'' ht => ⟨.inr ?_⟩) h2
        rw [ht]
        exact ⟨hg, h1, hu⟩
      · exact h2.elim
    simp only [traceD] at ho
    split at ho
    · rename_i hg
      exact wanted (.inl hg) ho
    · rename_i g want hg
      split at ho
      · rename_i t ht
        split at ho
        · rename_i b hb
          simp only [Tree.Out] at ho
          rcases ho with ⟨hbw, ho⟩ | ⟨hbw, ho⟩
          · have hq : b = want := by simpa using hbw
            rw [setTr_same (by rw [hb, hq])] at ho
            exact wanted (.inr ⟨g, want, hg, t, b, ht, hb, hbw⟩) ho
          · have hq : b = !want := by cases b <;> cases want <;> simp_all
            rw [setTr_same (by rw [hb, hq])] at ho
            refine step ⟨.top, [], base⟩ base (Nat.le_refl _) (fun r ⟨x, hx⟩ => by simp at hx) rfl (fun tr'' h => ⟨.inl ?_⟩) ho
            rw [h]
            exact ⟨g, want, hg, ⟨t, b, ht, hb, hbw⟩, rfl, rfl⟩
        · exact ho.elim
      · exact ho.elim

theorem writerOf_spec {all : List Oper} {t : Tmp} {k : Nat} : (∀ i, writerOf all t k = some i → k ≤ i ∧ ∃ o, all[i - k]? = some o ∧ o.dst = some t) ∧ (writerOf all t k = none → ∀ (i : Nat) (o : Oper), all[i]? = some o → o.dst ≠ some t) := by
  induction all generalizing k with
  | nil => exact ⟨fun i h => by simp [writerOf] at h, fun _ i o h => by simp at h⟩
  | cons o rest ih =>
    obtain ⟨h1, h2⟩ := ih (k := k + 1)
    have later : ∀ i, writerOf rest t (k + 1) = some i → k ≤ i ∧ ∃ o', (o :: rest)[i - k]? = some o' ∧ o'.dst = some t := by
      intro i hi
      obtain ⟨g1, o', g2, g3⟩ := h1 i hi
      refine ⟨by omega, o', ?_, g3⟩
      rw [show i - k = (i - (k + 1)) + 1 from by omega]
      simpa using g2
    simp only [writerOf]
    cases hd : o.dst with
    | none =>
      simp only
      refine ⟨later, fun hn i o' ho' => ?_⟩
      cases i with
      | zero => simp at ho'; subst ho'; rw [hd]; simp
      | succ i => simp at ho'; exact h2 hn i o' ho'
    | some d =>
      simp only
      split
      · rename_i hdt
        subst hdt
        exact ⟨fun i hi => by cases hi; exact ⟨Nat.le_refl _, o, by simp, hd⟩, fun hn => by cases hn⟩
      · rename_i hdt
        refine ⟨later, fun hn i o' ho' => ?_⟩
        cases i with
        | zero => simp at ho'; subst ho'; rw [hd]; simpa using hdt
        | succ i => simp at ho'; exact h2 hn i o' ho'

section main
variable {c : Cx El} {Γ : FuncId → Option (GSpec El)} {ops : Array Oper} {st : St El} {tr : List (Ent El)}

/-- All that is known of a trace. -/
structure TrOk (c : Cx El) (Γ : FuncId → Option (GSpec El)) (all : List Oper) (st : St El) (tr : List (Ent El)) : Prop where
  len : tr.length = all.length
  fact : ∀ (j : Nat) (o : Oper) (e : Ent El), all[j]? = some o → tr[j]? = some e → Fact c Γ all st tr j o e
  base : ∀ (j : Nat) (e : Ent El), tr[j]? = some e → lenR st.res ≤ e.base
  below : ∀ (j j' : Nat) (e e' : Ent El), tr[j]? = some e → tr[j']? = some e' → j < j' → ∀ r, Dom e.upd r → r < e'.base
  edges : ∀ (j : Nat) (o : Oper), all[j]? = some o → ∀ d ∈ o.after.toList, Region.binds .any d = true → d.on < j
  touch : ∀ (j : Nat) (o : Oper) (e : Ent El), all[j]? = some o → tr[j]? = some e → ∀ r, Dom e.upd r → touches o.op = true
  dst : ∀ (i j : Nat) (o p : Oper), all[j]? = some o → all[i]? = some p → i ≠ j → ∀ d, o.dst = some d → p.dst ≠ some d
  room : ∀ (j : Nat) (o : Oper), all[j]? = some o → ∀ d, o.dst = some d → d < st.slots.length
  apart : ∀ (i j : Nat) (p : Oper) (q e : Ent El), all[i]? = some p → tr[i]? = some q → tr[j]? = some e → i ≠ j → ∀ r, Dom e.upd r → r < e.base → touches p.op = true →
    (natAt (ancs all) j).testBit i = true ∨ (natAt (ancs all) i).testBit j = true ∨ (softE p.op q.val = true ∧ isVecR (getR st.res r) = true ∧ lens st.res tr) ∨ (∃ rs, softL all (ancs all) st.slots tr i p.op = some rs ∧ r ∉ rs)

theorem trOk_of {all : List Oper} {soft : Bool} (ht : (traceD c Γ all (ancs all) st all 0 (lenR st.res) []).Out tr) (hk : okD soft st.res st.slots all (ancs all) tr = true) (hlens : soft = true → lens st.res tr) : TrOk c Γ all st tr := by
  obtain ⟨ext, h1, h2, h3, h4, h5⟩ := traceD_spec (tr := []) (j := 0) rfl ht
  simp only [List.nil_append] at h1; subst h1
  have hlt : ∀ {j : Nat} {o : Oper}, all[j]? = some o → j < all.length := fun {j o} h => by
    rcases Nat.lt_or_ge j all.length with h' | h'
    · exact h'
    · rw [List.getElem?_eq_none h'] at h; cases h
  have hlt' : ∀ {j : Nat} {e : Ent El}, tr[j]? = some e → ∃ o, all[j]? = some o := fun {j e} h => by
    rcases Nat.lt_or_ge j tr.length with h' | h'
    · exact ⟨all[j]'(by omega), List.getElem?_eq_getElem (by omega)⟩
    · rw [List.getElem?_eq_none h'] at h; cases h
  have full : ∀ (j : Nat) (o : Oper) (e : Ent El), all[j]? = some o → tr[j]? = some e → (o.after.toList.all fun d => !Region.binds .any d || decide (d.on < j)) = true ∧ (e.upd.isEmpty || touches o.op) = true ∧ (match o.dst with | some d => decide (d < lenA st.slots) | none => true) = true ∧
      ∀ (i : Nat) (p : Oper), all[i]? = some p → i ≠ j → (match o.dst, p.dst with | some d, some d' => decide (d ≠ d') | _, _ => true) = true ∧
        (!turns e || !touches p.op || (natAt (ancs all) j).testBit i || (natAt (ancs all) i).testBit j || (soft && (match tr[i]? with | some q => softE p.op q.val | none => false) && vecTurns st.res e) || (match softL all (ancs all) st.slots tr i p.op with | some r => spares e r | none => false)) = true := by
    intro j o e ho he
    unfold okD at hk
    rw [List.all_eq_true] at hk
    have := hk j (List.mem_range.2 (hlt ho))
    rw [ho, he] at this
    simp only [Bool.and_eq_true] at this
    obtain ⟨⟨⟨k1, k2⟩, k2'⟩, k3⟩ := this
    refine ⟨k1, k2, k2', fun i p hp hij => ?_⟩
    rw [List.all_eq_true] at k3
    have := k3 i (List.mem_range.2 (hlt hp))
    rw [hp] at this
    simp only [Bool.or_eq_true, beq_iff_eq, hij, false_or, Bool.and_eq_true] at this
    refine ⟨this.1, ?_⟩
    simp only [Bool.or_eq_true, Bool.and_eq_true] at this ⊢
    exact this.2
  refine ⟨h2, fun j o e ho he => by have := (h3 j o e ho he).1; simpa using this, fun j e he => ?_, h4, fun j o ho d hd hb => ?_, fun j o e ho he r hr => ?_, fun i j o p ho hp hij d hd => ?_, fun j o ho d hd => ?_, fun i j p q e hp hq he hij r hr hlt2 htc => ?_⟩
  · obtain ⟨o, ho⟩ := hlt' he
    exact (h3 j o e ho he).2
  · have hj : j < tr.length := by rw [h2]; exact hlt ho
    have := (full j o tr[j] ho (List.getElem?_eq_getElem hj)).1
    rw [List.all_eq_true] at this
    have := this d hd
    simpa [hb] using this
  · have := (full j o e ho he).2.1
    obtain ⟨x, hx⟩ := hr
    cases hu : e.upd with
    | nil => rw [hu] at hx; simp at hx
    | cons u us => rw [hu] at this; simpa using this
  · have hj : j < tr.length := by rw [h2]; exact hlt ho
    have := ((full j o tr[j] ho (List.getElem?_eq_getElem hj)).2.2.2 i p hp hij).1
    rw [hd] at this
    intro hp'
    rw [hp'] at this
    simp at this
  · have hj : j < tr.length := by rw [h2]; exact hlt ho
    have := (full j o tr[j] ho (List.getElem?_eq_getElem hj)).2.2.1
    rw [hd, lenA_eq] at this
    simpa using this
  · obtain ⟨o, ho⟩ := hlt' he
    have := ((full j o e ho he).2.2.2 i p hp hij).2
    have ht : turns e = true := by
      obtain ⟨x, hx⟩ := hr
      unfold turns
      rw [List.any_eq_true]
      exact ⟨(r, x), hx, by simpa using hlt2⟩
    simp only [ht, htc, hq, Bool.not_true, Bool.false_or, Bool.or_eq_true, Bool.and_eq_true] at this
    rcases this with ((h | h) | ⟨⟨h1, h2⟩, h3⟩) | h
    · exact .inl h
    · exact .inr (.inl h)
    · refine .inr (.inr (.inl ⟨h2, ?_, hlens h1⟩))
      obtain ⟨x, hx⟩ := hr
      unfold vecTurns at h3
      rw [List.all_eq_true] at h3
      have := h3 (r, x) hx
      simpa [Nat.not_le.2 hlt2] using this
    · split at h
      · rename_i rs hr0
        refine .inr (.inr (.inr ⟨rs, hr0, ?_⟩))
        obtain ⟨x, hx⟩ := hr
        unfold spares at h
        rw [List.all_eq_true] at h
        exact notIn_ne (h (r, x) hx)
      · cases h

/-- An operation that looks at a length alone turns nothing. -/
theorem soft_upd {all : List Oper} (T : TrOk c Γ all st tr) {j : Nat} {o : Oper} {e : Ent El} (hj : all[j]? = some o) (he : tr[j]? = some e) (hs : softE o.op e.val = true) : e.upd = [] := by
  rcases (T.fact j o e hj he).run with ⟨b, t, hg, _, hv, hu⟩ | ⟨_, hout, _⟩
  · exact hu
  · cases hop : o.op <;> rw [hop] at hs hout <;> simp only [softE] at hs <;> try (cases hs; done)
    simp only [aop] at hout
    obtain ⟨x, _, hx⟩ := pureT_out hout
    exact (Prod.mk.inj hx).2

/-- An address in a vector hangs on its length alone. -/
theorem soft_out {R R' : List (Res El)} {t : TypeId} {a ix y : AVal El} (h : (aIndexAddr c R t a ix).Out y) (hv : ∀ (r : Nat) (t' : TypeId) (xs : List (El t')), getR R r = .vec t' xs → ∃ ys : List (El t'), getR R' r = .vec t' ys ∧ ys.length = xs.length) :
    (aIndexAddr c R' t a ix).Out y := by
  unfold aIndexAddr at h ⊢
  split at h
  · exact h
  · split at h
    · exact h
    · rename_i r
      split at h
      · rename_i t' xs hg
        obtain ⟨ys, h1, h2⟩ := hv r t' xs hg
        rw [h1]
        simp only
        split at h
        · rename_i hq
          rw [if_pos hq]
          obtain ⟨h3, h4⟩ := h
          exact ⟨by rw [h2]; exact h3, h4⟩
        · exact h.elim
      · exact h.elim
    · exact h
    · exact h.elim
  · exact h.elim
/-- An operation that looks at some resources alone. -/
theorem softL_out {all : List Oper} {an : List Nat} {slots : List (AVal El)} {j base : Nat} {op : Op} {rs : List Nat} {R R' : List (Res El)} {y : Eff El} (hs : softL all an slots tr j op = some rs)
    (hR : ∀ r ∈ rs, getR R r ≠ .dead → getR R r = getR R' r) (h : (aop c Γ R base (evM all an slots (tr.take j) j) op).Out y) : (aop c Γ R' base (evM all an slots (tr.take j) j) op).Out y ∧ y.2 = [] := by
  cases op <;> simp only [softL] at hs <;> try (cases hs; done)
  case load t x =>
    simp only [aop] at h ⊢
    obtain ⟨z, hz, hy⟩ := pureT_out h
    subst hy
    refine ⟨?_, rfl⟩
    unfold pureT
    rw [Tree.out_bind]
    refine ⟨z, ?_, rfl⟩
    split at hs
    · rename_i r off hev
      cases hs
      rw [hev] at hz ⊢
      have hsame := hR r (List.mem_cons_self ..) (fun hd => by
        unfold aLoad cellsAt at hz
        simp only [hd] at hz
        exact hz.elim)
      unfold aLoad cellsAt at hz ⊢
      simp only [← hsame]; exact hz
    · rename_i hev
      rw [hev] at hz ⊢
      unfold aLoad at hz ⊢
      exact hz
    · cases hs
  case indexAddr t x i =>
    simp only [aop] at h ⊢
    obtain ⟨z, hz, hy⟩ := pureT_out h
    subst hy
    refine ⟨?_, rfl⟩
    unfold pureT
    rw [Tree.out_bind]
    refine ⟨z, ?_, rfl⟩
    split at hs
    · rename_i hev
      rw [hev] at hz ⊢
      unfold aIndexAddr at hz ⊢
      exact hz
    · rename_i hev
      rw [hev] at hz ⊢
      unfold aIndexAddr at hz ⊢
      exact hz
    · rename_i hev
      rw [hev] at hz ⊢
      unfold aIndexAddr at hz ⊢
      exact hz
    · cases hs
  case call cl =>
    split at hs
    · rename_i hc
      split at hs
      · rename_i x hx
        simp only [aop, hc, hx, mapA] at h ⊢
        unfold aBuiltin at h ⊢
        split at h
        · rename_i t0 x0 h1 h2 h3
          cases h3
          obtain ⟨z, hz, hy⟩ := pureT_out h
          subst hy
          refine ⟨?_, rfl⟩
          unfold pureT
          rw [Tree.out_bind]
          refine ⟨z, ?_, rfl⟩
          split at hs
          · rename_i hev
            rw [hev] at hz ⊢
            unfold aLenM aLen at hz ⊢
            exact hz
          · rename_i hev
            rw [hev] at hz ⊢
            unfold aLenM aLen at hz ⊢
            exact hz
          · rename_i hev
            rw [hev] at hz ⊢
            unfold aLenM aLen at hz ⊢
            exact hz
          · cases hs
        all_goals first | (cases ‹Builtin.len = _›; done) | exact h.elim | skip
      · cases hs
    · cases hs
theorem softE_rs {all : List Oper} {an : List Nat} {slots : List (AVal El)} {j : Nat} {op : Op} {rs : List Nat} {v : AVal El} (h : softE op v = true) (hs : softL all an slots tr j op = some rs) : rs = [] := by
  cases op <;> simp only [softE] at h <;> try (cases h; done)
  simp only [softL] at hs
  split at hs <;> cases hs <;> rfl
theorem softL_upd {all : List Oper} (T : TrOk c Γ all st tr) {j : Nat} {o : Oper} {e : Ent El} (hj : all[j]? = some o) (he : tr[j]? = some e) {rs : List Nat} (hs : softL all (ancs all) st.slots tr j o.op = some rs) : e.upd = [] := by
  rcases (T.fact j o e hj he).run with ⟨b, t, hg, _, hv, hu⟩ | ⟨_, hout, _⟩
  · exact hu
  · exact (softL_out hs (fun r _ _ => rfl) hout).2
theorem lens_at {R : List (Res El)} {tr : List (Ent El)} (h : lens R tr) {i : Nat} {e : Ent El} (he : tr[i]? = some e) : lenU R e.upd := by
  induction tr generalizing i with
  | nil => simp at he
  | cons a es ih =>
    unfold lens at h
    cases i with
    | zero =>
      simp at he; subst he
      split at h
      · rename_i hu; rw [hu]; trivial
      · exact h.1
    | succ i =>
      simp at he
      split at h
      · exact ih h he
      · exact ih h.2 he
theorem lenU_keep {R R' : List (Res El)} {us : List (Nat × Res El)} (h : lenU R us) {r : Nat} {t : TypeId} {xs : List (El t)} (hr : getR R r = .vec t xs) (hr' : ∃ ys : List (El t), getR R' r = .vec t ys ∧ ys.length = xs.length) :
    ∃ ys : List (El t), getR (updR R' us) r = .vec t ys ∧ ys.length = xs.length := by
  induction us generalizing R' with
  | nil => exact hr'
  | cons u us ih =>
    obtain ⟨n, x⟩ := u
    simp only [updR]
    unfold lenU at h
    by_cases hn : r = n
    · subst hn
      rw [hr] at h
      simp only at h
      obtain ⟨h1, h2⟩ := h
      refine ih h2 ?_
      rw [getR_setR, if_pos rfl]
      cases x with
      | vec t' ys =>
        simp only at h1
        obtain ⟨rfl, h1⟩ := h1
        exact ⟨ys, rfl, h1⟩
      | dead => exact h1.elim
      | cells _ _ => exact h1.elim
      | mapS _ _ _ => exact h1.elim
      | mapC _ => exact h1.elim
    · refine ih ?_ (by rw [getR_setR, if_neg hn]; exact hr')
      split at h
      · exact h.2
      · exact h
theorem resF_lens {R0 : List (Res El)} {tr : List (Ent El)} {m : Nat → Bool} {k r : Nat} {R : List (Res El)} {t : TypeId} {xs : List (El t)} (h : ∀ e ∈ tr, lenU R0 e.upd) (h0 : getR R0 r = .vec t xs) (hR : ∃ ys : List (El t), getR R r = .vec t ys ∧ ys.length = xs.length) :
    ∃ ys : List (El t), getR (resF m tr k R) r = .vec t ys ∧ ys.length = xs.length := by
  induction tr generalizing k R with
  | nil => exact hR
  | cons e es ih =>
    simp only [resF]
    refine ih (fun e' he' => h e' (List.mem_cons_of_mem _ he')) ?_
    split
    · exact lenU_keep (h e (List.mem_cons_self ..)) h0 hR
    · exact hR

/-- A slot's value when the operations of 's' have been carried out. -/
def slotF (all : List Oper) (tr : List (Ent El)) (slots : List (AVal El)) (s : Nat → Bool) (t : Tmp) : AVal El :=
  match writerOf all t 0 with
  | none => nth slots t
  | some i => if s i = true then (match tr[i]? with | some e => e.val | none => .top) else nth slots t

/-- What holds when the operations of 's' have been carried out. -/
structure InvD (c : Cx El) (all : List Oper) (st : St El) (tr : List (Ent El)) (I0 : Nat → Prop) (E0 : Env) (a0 : Act) (w0 : World) (s : Nat → Bool) (I : Nat → Prop) (E : Env) (a : Act) (w : World) : Prop where
  hr : HR c.L I w E (resF s tr 0 st.res)
  slots : ∀ t, Rep c.L I w E (slotF all tr st.slots s t) (a.tmps.getD t undef)
  size : a.tmps.size = st.slots.length
  nodefer : a.defers = []
  ext : Ext I0 E0 st.res w0 I E (resF s tr 0 st.res) w
  names : ∀ r, E r ≠ E0 r → ∃ i e, s i = true ∧ tr[i]? = some e ∧ Dom e.upd r ∧ e.base ≤ r
  keeps : Keeps all a0 a
  closed : ∀ i j, s j = true → (natAt (ancs all) j).testBit i = true → s i = true

theorem touches_free {Γ : FuncId → Option (GSpec El)} {R R' : List (Res El)} {base : Nat} {ρ : Operand → AVal El} {o : Op} (h : touches o = false) : aop c Γ R base ρ o = aop c Γ R' base ρ o := by
  cases o <;> simp [touches] at h <;> first | rfl | (rename_i fn _ _; cases fn <;> rfl)

theorem step_d {all : List Oper} (hΓ : ∀ f g, Γ f = some g → GOk c f g) (T : TrOk c Γ all st tr) {I0 : Nat → Prop} {E0 : Env} {a0 : Act} {w0 : World} (hfree : FreeFrom E0 (lenR st.res))
    {s : Nat → Bool} {I : Nat → Prop} {E : Env} {a : Act} {w : World} (h : InvD c all st tr I0 E0 a0 w0 s I E a w) {j : Nat} {o : Oper} (hj : all[j]? = some o) (hns : s j = false)
    (hanc : ∀ i, (natAt (ancs all) j).testBit i = true → s i = true) :
    (∃ b t x, o.guard = some (b, t) ∧ (∀ ops : Array Oper, ops.toList = all → yielded ops a.tmps b = some x) ∧ (x == t) = false ∧
        InvD c all st tr I0 E0 a0 w0 (fun i => i == j || s i) I E (a.put o.dst undef) w) ∨
    ((o.guard = none ∨ ∃ b t x, o.guard = some (b, t) ∧ (∀ ops : Array Oper, ops.toList = all → yielded ops a.tmps b = some x) ∧ (x == t) = true) ∧
      Does c.P o a w fun v w' => ∃ I' E', InvD c all st tr I0 E0 a0 w0 (fun i => i == j || s i) I' E' (a.put o.dst v) w') := by
  have hjl : j < all.length := by
    rcases Nat.lt_or_ge j all.length with h' | h'
    · exact h'
    · rw [List.getElem?_eq_none h'] at hj; cases hj
  have hjt : j < tr.length := by rw [T.len]; exact hjl
  obtain ⟨e, he⟩ : ∃ e, tr[j]? = some e := ⟨tr[j], List.getElem?_eq_getElem hjt⟩
  have hancLt : ∀ i, (natAt (ancs all) j).testBit i = true → i < j := by
    intro i hi
    have key : ∀ (n j : Nat) (o : Oper), j ≤ n → all[j]? = some o → ∀ i, (natAt (ancs all) j).testBit i = true → i < j := by
      intro n
      induction n with
      | zero =>
        intro j o hn hj i hi
        obtain ⟨d, h1, h2, h3⟩ := (ancs_bit hj).1 hi
        have := T.edges j o hj d h1 h2
        omega
      | succ n ih =>
        intro j o hn hj i hi
        obtain ⟨d, h1, h2, h3⟩ := (ancs_bit hj).1 hi
        have hd := T.edges j o hj d h1 h2
        rcases h3 with rfl | ⟨h4, h5⟩
        · exact hd
        · have hdl : d.on < all.length := by
            rcases Nat.lt_or_ge j all.length with h' | h'
            · omega
            · rw [List.getElem?_eq_none h'] at hj; cases hj
          have := ih d.on all[d.on] (by omega) (List.getElem?_eq_getElem hdl) i h5
          omega
    exact key j j o (Nat.le_refl _) hj i hi
  have hancLt' : ∀ (i k : Nat) (p : Oper), all[k]? = some p → (natAt (ancs all) k).testBit i = true → i < k := by
    intro i k p hk
    induction k using Nat.strongRecOn generalizing i p with
    | _ k ih =>
      intro hi
      obtain ⟨d, h1, h2, h3⟩ := (ancs_bit hk).1 hi
      have hd := T.edges k p hk d h1 h2
      rcases h3 with rfl | ⟨h4, h5⟩
      · exact hd
      · have hdl : d.on < all.length := by
          rcases Nat.lt_or_ge k all.length with h' | h'
          · omega
          · rw [List.getElem?_eq_none h'] at hk; cases hk
        have := ih d.on hd i all[d.on] (List.getElem?_eq_getElem hdl) h5
        omega
  have trans : ∀ (i i' k : Nat) (p : Oper), all[k]? = some p → (natAt (ancs all) k).testBit i' = true → (natAt (ancs all) i').testBit i = true → (natAt (ancs all) k).testBit i = true := by
    intro i i' k p hk
    induction k using Nat.strongRecOn generalizing p with
    | _ k ih =>
      intro h1 h2
      obtain ⟨d, g1, g2, g3⟩ := (ancs_bit hk).1 h1
      have hd := T.edges k p hk d g1 g2
      rcases g3 with rfl | ⟨g4, g5⟩
      · exact (ancs_bit hk).2 ⟨d, g1, g2, .inr ⟨hd, h2⟩⟩
      · have hdl : d.on < all.length := by
          rcases Nat.lt_or_ge k all.length with h' | h'
          · omega
          · rw [List.getElem?_eq_none h'] at hk; cases hk
        exact (ancs_bit hk).2 ⟨d, g1, g2, .inr ⟨hd, ih d.on hd all[d.on] (List.getElem?_eq_getElem hdl) g5 h2⟩⟩
  -- what the operation finds
  have ev : ∀ x, Rep c.L I w E (evM all (ancs all) st.slots (tr.take j) j x) (a.eval x) := by
    intro x
    cases x with
    | const v => exact absV_ok v
    | func f => exact .fn (caps := []) (vs := []) rfl (fun i c v hc => by simp at hc)
    | global g => exact .top
    | tmp t =>
      have hs := h.slots t
      simp only [evM]
      unfold slotF at hs
      cases hw : writerOf all t 0 with
      | none => rw [hw] at hs; exact hs
      | some i =>
        rw [hw] at hs
        simp only
        simp only at hs
        split
        · rename_i hb
          have hsi := hanc i hb
          rw [if_pos hsi] at hs
          have hlt := hancLt i hb
          rw [entAt_eq, List.getElem?_take, if_pos hlt]
          exact hs
        · split
          · rename_i hb hor
            have hsi : s i = false := by
              rcases hor with rfl | hor
              · exact hns
              · cases hsi : s i with
                | false => rfl
                | true => have := h.closed j i hsi hor; rw [hns] at this; cases this
            rw [if_neg (by simp [hsi])] at hs
            exact hs
          · exact .top
  have yields : ∀ (b sl : Nat) (x : Bool), dstOf all b = some sl → evM all (ancs all) st.slots (tr.take j) j (.tmp sl) = .bool x → ∀ ops : Array Oper, ops.toList = all → yielded ops a.tmps b = some x := by
    intro b sl x hd hx ops hops
    have hr := ev (.tmp sl)
    rw [hx] at hr
    have hg : (ops[b]?).bind (·.dst) = some sl := by
      rw [dstOf_eq, ← hops] at hd
      simpa using hd
    unfold yielded
    rw [hg]
    simp only [Act.eval] at hr
    have hlt : sl < a.tmps.size := by
      rcases Nat.lt_or_ge sl a.tmps.size with h' | h'
      · exact h'
      · have : a.tmps.getD sl undef = undef := by simp [Array.getD_eq_getD_getElem?, Array.getElem?_eq_none h']
        rw [this] at hr
        generalize hu : undef = u at hr
        cases hr
        simp [undef] at hu
    have he : a.tmps.getD sl undef = a.tmps[sl] := by simp [Array.getD_eq_getD_getElem?, Array.getElem?_eq_getElem hlt]
    rw [he] at hr
    simp only [Option.bind_some, Array.getElem?_eq_getElem hlt]
    generalize a.tmps[sl] = v at hr
    cases hr
    rfl
  -- the new slots
  have slotsNew : ∀ {I' : Nat → Prop} {E' : Env} {w' : World} {v : Value}, (∀ t, Rep c.L I' w' E' (slotF all tr st.slots s t) (a.tmps.getD t undef)) → Rep c.L I' w' E' e.val v →
      ∀ t, Rep c.L I' w' E' (slotF all tr st.slots (fun i => i == j || s i) t) ((a.put o.dst v).tmps.getD t undef) := by
    intro I' E' w' v hold hv t
    have hs := hold t
    by_cases hdt : o.dst = some t
    · have hw : writerOf all t 0 = some j := by
        cases hw : writerOf all t 0 with
        | none => exact absurd hdt (writerOf_spec.2 hw j o hj)
        | some i =>
          obtain ⟨_, p, hp, hpd⟩ := writerOf_spec.1 i hw
          simp only [Nat.sub_zero] at hp
          by_cases hij : i = j
          · rw [hij]
          · exact absurd hpd (T.dst i j o p hj hp hij t hdt)
      unfold slotF
      rw [hw]
      simp only [beq_self_eq_true, Bool.true_or, if_true, he]
      rw [hdt]
      simp only [Act.put]
      have hlt : t < a.tmps.size := by rw [h.size]; exact T.room j o hj t hdt
      rw [Array.getD_eq_getD_getElem?, Array.getElem?_setIfInBounds_self_of_lt hlt]
      exact hv
    · have hput : (a.put o.dst v).tmps.getD t undef = a.tmps.getD t undef := by
        rw [Array.getD_eq_getD_getElem?, Array.getD_eq_getD_getElem?, put_keeps a o v hdt]
      rw [hput]
      have hslot : slotF all tr st.slots (fun i => i == j || s i) t = slotF all tr st.slots s t := by
        unfold slotF
        cases hw : writerOf all t 0 with
        | none => rfl
        | some i =>
          have hij : i ≠ j := by
            rintro rfl
            obtain ⟨_, p, hp, hpd⟩ := writerOf_spec.1 i hw
            simp only [Nat.sub_zero] at hp
            rw [hj] at hp; cases hp
            exact hdt hpd
          simp [hij]
      rw [hslot]
      exact hs
  have keepsNew : ∀ v, Keeps all a0 (a.put o.dst v) := fun v => ⟨(put_size _ _ _).trans h.keeps.1, fun t ht => (put_keeps a o v (ht o (List.mem_of_getElem? hj))).trans (h.keeps.2 t ht)⟩
  have closedNew : ∀ i k, ((k == j || s k) = true) → (natAt (ancs all) k).testBit i = true → (i == j || s i) = true := by
    intro i k hk hi
    simp only [Bool.or_eq_true, beq_iff_eq] at hk ⊢
    rcases hk with rfl | hk
    · exact .inr (hanc i hi)
    · exact .inr (h.closed i k hk hi)
  -- the new resources
  have resNew : ∀ r, getR (resF (fun i => i == j || s i) tr 0 st.res) r = getR (updR (resF s tr 0 st.res) e.upd) r := by
    intro r
    by_cases hd : Dom e.upd r
    · refine resF_last he hd (by simp) (fun i e' hi hlt hd' => ?_) _
      simp only [Nat.zero_add, Bool.or_eq_false_iff, beq_eq_false_iff_ne, ne_eq]
      refine ⟨by omega, ?_⟩
      cases hsi : s i with
      | false => rfl
      | true =>
        have hbelow := T.below j i e e' he hi hlt r hd
        have htj := T.touch j o e hj he r hd
        rcases T.apart j i o e e' hj he hi (by omega) r hd' hbelow htj with h1 | h1 | ⟨h1, _⟩ | ⟨r0, h1, _⟩
        · have := h.closed j i hsi h1; rw [hns] at this; cases this
        · have := hancLt i h1; omega
        · rw [soft_upd T hj he h1] at hd; obtain ⟨_, hd⟩ := hd; simp at hd
        · rw [softL_upd T hj he h1] at hd; obtain ⟨_, hd⟩ := hd; simp at hd
    · rw [getR_updR_not hd]
      refine resF_congr (fun i e' hi hd' => ?_) rfl
      simp only [Nat.zero_add]
      have : i ≠ j := by rintro rfl; rw [he] at hi; cases hi; exact hd hd'
      simp [this]
  rcases (T.fact j o e hj he).run with ⟨b, t, hg, ⟨sl, x, h1, h2, h3⟩, hv, hu⟩ | ⟨hg, hout, hupd⟩
  · refine .inl ⟨b, t, x, hg, yields b sl x h1 h2, h3, ?_⟩
    have hres : ∀ r, getR (resF (fun i => i == j || s i) tr 0 st.res) r = getR (resF s tr 0 st.res) r := fun r => by rw [resNew r, hu]; rfl
    have hown : ∀ k, Own E (resF (fun i => i == j || s i) tr 0 st.res) k → Own E (resF s tr 0 st.res) k := by
      rintro k ⟨r, e', g1, g2, g3⟩
      exact ⟨r, e', by rwa [hres] at g1, g2, g3⟩
    refine ⟨h.hr.congr hres, slotsNew h.slots (by rw [hv]; exact .top), (put_size _ _ _).trans h.size, by rw [put_defers]; exact h.nodefer,
      ⟨h.ext.imm, h.ext.env, h.ext.fr, h.ext.immOld, fun k hk => h.ext.ownOld k (hown k hk)⟩, fun r hr => ?_, keepsNew _, closedNew⟩
    obtain ⟨i, e', g1, g2, g3, g4⟩ := h.names r hr
    exact ⟨i, e', by simp [g1], g2, g3, g4⟩
  · refine .inr ⟨?_, ?_⟩
    · rcases hg with hg | ⟨b, t, hg, sl, x, h1, h2, h3⟩
      · exact .inl hg
      · exact .inr ⟨b, t, x, hg, yields b sl x h1 h2, h3⟩
    · -- fewer resources for this operation
      have htake : ∀ r, getR (resF (natAt (ancs all) j).testBit (tr.take j) 0 st.res) r = getR (resF (natAt (ancs all) j).testBit tr 0 st.res) r := fun r =>
        resF_take (fun i hi => by
          cases hb : (natAt (ancs all) j).testBit i with
          | false => rfl
          | true => have := hancLt i hb; omega)
      have hsub0 : touches o.op = true → ∀ r, getR (resF (natAt (ancs all) j).testBit (tr.take j) 0 st.res) r ≠ .dead →
          getR (resF (natAt (ancs all) j).testBit (tr.take j) 0 st.res) r = getR (resF s tr 0 st.res) r ∨ (softE o.op e.val = true ∧ isVecR (getR st.res r) = true ∧ lens st.res tr) ∨ (∃ rs, softL all (ancs all) st.slots tr j o.op = some rs ∧ r ∉ rs) := by
        intro htc r hr
        rw [htake] at hr ⊢
        by_cases hall : ∀ i e', tr[i]? = some e' → Dom e'.upd r → (natAt (ancs all) j).testBit (0 + i) = s (0 + i)
        · exact .inl (resF_congr hall rfl)
        · refine Classical.byContradiction fun hcon => ?_
          obtain ⟨i, hi⟩ := Classical.not_forall.1 hall
          obtain ⟨e', hi⟩ := Classical.not_forall.1 hi
          obtain ⟨h1, hi⟩ := Classical.not_imp.1 hi
          obtain ⟨h2, h3⟩ := Classical.not_imp.1 hi
          simp only [Nat.zero_add] at h3
          have hsi : s i = true ∧ (natAt (ancs all) j).testBit i = false := by
            cases hb : (natAt (ancs all) j).testBit i with
            | true => rw [hb, hanc i hb] at h3; exact absurd rfl h3
            | false => cases hsi : s i with
              | true => exact ⟨rfl, rfl⟩
              | false => rw [hb, hsi] at h3; exact absurd rfl h3
          have hij : i ≠ j := by rintro rfl; rw [hns] at hsi; cases hsi.1
          obtain ⟨p, hp⟩ : ∃ p, all[i]? = some p := by
            rcases Nat.lt_or_ge i all.length with h' | h'
            · exact ⟨_, List.getElem?_eq_getElem h'⟩
            · rw [List.getElem?_eq_none (by rw [T.len]; exact h')] at h1; cases h1
          rcases Nat.lt_or_ge r e'.base with hlt | hge
          · rcases T.apart j i o e e' hj he h1 (Ne.symm hij) r h2 hlt htc with g | g | g
            · have := h.closed j i hsi.1 g; rw [hns] at this; cases this
            · rw [hsi.2] at g; cases g
            · exact hcon (.inr g)
          · -- named anew by 'i': nothing that 'j' waits for has it
            apply hr
            rw [resF_none (fun i' e'' g1 g2 => ?_)]
            · exact getR_ge (Nat.le_trans (T.base i e' h1) hge)
            · simp only [Nat.zero_add]
              cases hb : (natAt (ancs all) j).testBit i' with
              | false => rfl
              | true =>
                exfalso
                rcases Nat.lt_trichotomy i' i with hlt | heq | hgt
                · have := T.below i' i e'' e' g1 h1 hlt r g2; omega
                · subst heq; rw [hsi.2] at hb; cases hb
                · have hb2 := T.below i i' e' e'' h1 g1 hgt r h2
                  have hti := T.touch i p e' hp h1 r h2
                  rcases T.apart i i' p e' e'' hp h1 g1 (by omega) r g2 hb2 hti with g | g | ⟨g, _⟩ | ⟨r0, g, _⟩
                  · have := trans i i' j o hj hb g; rw [hsi.2] at this; cases this
                  · have := hancLt' i' i p hp g; omega
                  · rw [soft_upd T hp h1 g] at h2; obtain ⟨_, h2⟩ := h2; simp at h2
                  · rw [softL_upd T hp h1 g] at h2; obtain ⟨_, h2⟩ := h2; simp at h2
      have hsub : softE o.op e.val = false → softL all (ancs all) st.slots tr j o.op = none → touches o.op = true → ∀ r, getR (resF (natAt (ancs all) j).testBit (tr.take j) 0 st.res) r ≠ .dead →
          getR (resF (natAt (ancs all) j).testBit (tr.take j) 0 st.res) r = getR (resF s tr 0 st.res) r := fun hs hs' htc r hr => by
        rcases hsub0 htc r hr with h | ⟨h, _⟩ | ⟨r0, h, _⟩
        · exact h
        · rw [hs] at h; cases h
        · rw [hs'] at h; cases h
      have hE : ∀ r x, (r, x) ∈ e.upd → e.base ≤ r → E r = none := by
        intro r x hx hb
        have h0 : E0 r = none := hfree r (Nat.le_trans (T.base j e he) hb)
        cases hEr : E r with
        | none => rfl
        | some q =>
          exfalso
          obtain ⟨i, e', g1, g2, g3, g4⟩ := h.names r (by rw [hEr, h0]; simp)
          have hij : i ≠ j := by rintro rfl; rw [hns] at g1; cases g1
          rcases Nat.lt_or_ge i j with hlt | hge
          · have := T.below i j e' e g2 he hlt r g3; omega
          · have := T.below j i e e' he g2 (by omega) r ⟨x, hx⟩; omega
      -- carried out
      have done : ∀ (Rm : List (Res El)), (aop c Γ Rm e.base (evM all (ancs all) st.slots (tr.take j) j) o.op).Out (e.val, e.upd) → (∀ r, getR Rm r ≠ .dead → getR Rm r = getR (resF s tr 0 st.res) r) →
          (∀ r, Dom e.upd r → (e.base ≤ r ∧ E r = none) ∨ getR Rm r ≠ .dead) → Does c.P o a w fun v w' => ∃ I' E', InvD c all st tr I0 E0 a0 w0 (fun i => i == j || s i) I' E' (a.put o.dst v) w' := by
        intro Rm hout hRm hud
        have hd := aop_ok (a := a) hΓ ev (h.hr.less hRm) hout hE
        intro next Q hn
        refine hd next Q ?_
        rintro v w' ⟨I', E', hp⟩
        have hp' := h.hr.frame hRm hp hud
        refine hn v w' ⟨I', E', ⟨hp'.hr.congr resNew, slotsNew (fun t => h.hr.keepRep hp'.ext (h.slots t)) hp'.rep, (put_size _ _ _).trans h.size, by rw [put_defers]; exact h.nodefer, ?_, ?_, keepsNew _, closedNew⟩⟩
        · have hx := h.ext.trans hp'.ext
          refine ⟨hx.imm, hx.env, hx.fr, hx.immOld, fun k hk => hx.ownOld k ?_⟩
          obtain ⟨r, e', g1, g2, g3⟩ := hk
          exact ⟨r, e', by rwa [resNew] at g1, g2, g3⟩
        · intro r hr
          by_cases hnew : Dom e.upd r ∧ e.base ≤ r
          · exact ⟨j, e, by simp, he, hnew.1, hnew.2⟩
          · have heq := hp'.names r (fun x hx => by
              rcases Nat.lt_or_ge r e.base with h' | h'
              · exact h'
              · exact absurd ⟨⟨x, hx⟩, h'⟩ hnew)
            rw [heq] at hr
            obtain ⟨i, e', g1, g2, g3, g4⟩ := h.names r hr
            exact ⟨i, e', by simp [g1], g2, g3, g4⟩
      cases htc : touches o.op with
      | true =>
        cases hsl : softL all (ancs all) st.slots tr j o.op with
        | some rs =>
          refine done (resF s tr 0 st.res) ?_ (fun r _ => rfl) (fun r hd => ?_)
          · refine (softL_out hsl (fun r hr hd => ?_) hout).1
            rcases hsub0 htc r hd with h1 | ⟨h1, _⟩ | ⟨r2, h1, h2⟩
            · exact h1
            · rw [softE_rs h1 hsl] at hr; cases hr
            · rw [hsl] at h1; cases h1; exact absurd hr h2
          · rw [softL_upd T hj he hsl] at hd; obtain ⟨_, hd⟩ := hd; simp at hd
        | none =>
        cases hsoft : softE o.op e.val with
        | true =>
          refine done (resF s tr 0 st.res) ?_ (fun r _ => rfl) (fun r hd => ?_)
          · cases hop : o.op <;> rw [hop] at hsoft <;> simp only [softE] at hsoft <;> try (cases hsoft; done)
            rename_i t x i
            rw [hop] at hout
            simp only [aop] at hout ⊢
            obtain ⟨y, hy, hxy⟩ := pureT_out hout
            unfold pureT
            rw [Tree.out_bind]
            refine ⟨y, soft_out hy (fun r t' xs hg => ?_), hxy.symm⟩
            rcases hsub0 htc r (by rw [hg]; simp) with h1 | ⟨_, h2, h3⟩ | ⟨r0, h2, _⟩
            · exact ⟨xs, by rw [← h1]; exact hg, rfl⟩
            · cases h0 : getR st.res r with
              | dead => rw [h0] at h2; cases h2
              | cells _ _ => rw [h0] at h2; cases h2
              | mapS _ _ _ => rw [h0] at h2; cases h2
              | mapC _ => rw [h0] at h2; cases h2
              | vec t0 xs0 =>
                have hlen := fun (m : Nat → Bool) => resF_lens (m := m) (k := 0) (R := st.res) (tr := tr) (fun e' he' => by
                  obtain ⟨i', hi', rfl⟩ := List.getElem_of_mem he'
                  exact lens_at h3 (List.getElem?_eq_getElem hi')) h0 ⟨xs0, h0, rfl⟩
                obtain ⟨ys, k1, k2⟩ := hlen s
                obtain ⟨zs, k3, k4⟩ := hlen (natAt (ancs all) j).testBit
                rw [htake, k3] at hg
                cases hg
                exact ⟨ys, k1, k2.trans k4.symm⟩
            · rw [hsl] at h2; cases h2
          · rw [soft_upd T hj he hsoft] at hd; obtain ⟨_, hd⟩ := hd; simp at hd
        | false =>
        refine done _ hout (hsub hsoft hsl htc) (fun r hd => ?_)
        rcases updOk_spec hupd hd with h1 | h1
        · obtain ⟨x, hx⟩ := hd
          exact .inl ⟨h1, hE r x hx h1⟩
        · exact .inr h1
      | false =>
        refine done [] (by rw [touches_free htc (R' := resF (natAt (ancs all) j).testBit (tr.take j) 0 st.res)]; exact hout) (fun r hr => absurd rfl hr) (fun r hd => ?_)
        have := T.touch j o e hj he r hd
        rw [htc] at this; cases this
end main
end Go.Ax
