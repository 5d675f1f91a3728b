/- A verified symbolic executor, part 14: a region that draws its order, as a whole. Over any program; the facts on its types are given with it. -/
import Derived.Test.YtaikpkhclnkkaaaAx13
set_option linter.unusedVariables false
set_option linter.unusedSimpArgs false
namespace Go.Ax
variable {El : TypeId → Type}
section
variable {c : Cx El} {Γ : FuncId → Option (GSpec El)} {ops : Array Oper} {st : St El} {tr : List (Ent El)}

theorem nth_setT (l : List (AVal El)) (d : Option Tmp) (v : AVal El) (t : Tmp) : nth (setT l d v) t = if d = some t ∧ t < l.length then v else nth l t := by
  cases d with
  | none => simp [setT]
  | some d =>
    simp only [setT, setF_eq, nth_eq, List.getD_eq_getElem?_getD, List.getElem?_set, Option.some.injEq]
    by_cases h : d = t
    · subst h
      by_cases hl : d < l.length
      · simp [hl]
      · simp [hl]
    · simp [h]
theorem length_setT (l : List (AVal El)) (d : Option Tmp) (v : AVal El) : (setT l d v).length = l.length := by
  cases d <;> simp [setT, setF_eq]
theorem length_finSlots (os : List Oper) (es : List (Ent El)) (l : List (AVal El)) : (finSlots os es l).length = l.length := by
  induction os generalizing es l with
  | nil => simp [finSlots]
  | cons o os ih => cases es with
    | nil => simp [finSlots]
    | cons e es => simp [finSlots, ih, length_setT]
theorem finSlots_none {os : List Oper} {t : Tmp} (h : ∀ (i : Nat) (o : Oper), os[i]? = some o → o.dst ≠ some t) (es : List (Ent El)) (l : List (AVal El)) : nth (finSlots os es l) t = nth l t := by
  induction os generalizing es l with
  | nil => simp [finSlots]
  | cons o os ih => cases es with
    | nil => simp [finSlots]
    | cons e es =>
      simp only [finSlots]
      rw [ih (fun i o' ho' => h (i + 1) o' (by simpa using ho')), nth_setT, if_neg (fun hh => h 0 o rfl hh.1)]
theorem finSlots_at {os : List Oper} {t : Tmp} {i : Nat} {o : Oper} {es : List (Ent El)} {e : Ent El} {l : List (AVal El)} (ho : os[i]? = some o) (hd : o.dst = some t) (he : es[i]? = some e) (hlt : t < l.length)
    (h : ∀ (k : Nat) (p : Oper), os[k]? = some p → i < k → p.dst ≠ some t) : nth (finSlots os es l) t = e.val := by
  induction os generalizing i es l with
  | nil => simp at ho
  | cons o' os ih =>
    cases es with
    | nil => simp at he
    | cons e' es =>
      simp only [finSlots]
      cases i with
      | zero =>
        simp at ho he; subst ho; subst he
        rw [finSlots_none (fun k p hp => h (k + 1) p (by simpa using hp) (by omega)), nth_setT, if_pos ⟨hd, hlt⟩]
      | succ i =>
        exact ih (by simpa using ho) (by simpa using he) (by rw [length_setT]; exact hlt) (fun k p hp hk => h (k + 1) p (by simpa using hp) (by omega))

theorem finRes_eq (tr : List (Ent El)) (m : Nat → Bool) (k : Nat) (R : List (Res El)) (h : ∀ i, i < tr.length → m (k + i) = true) : resF m tr k R = finRes tr R := by
  induction tr generalizing k R with
  | nil => rfl
  | cons e es ih =>
    simp only [resF, finRes]
    rw [if_pos (by simpa using h 0 (by simp)), ih (k + 1) _ (fun i hi => by
      have := h (i + 1) (by simpa using hi)
      rwa [show k + (i + 1) = k + 1 + i from by omega] at this)]

theorem dom_finRes {tr : List (Ent El)} {R : List (Res El)} : lenR R ≤ lenR (finRes tr R) ∧ ∀ (i : Nat) (e : Ent El), tr[i]? = some e → ∀ r, Dom e.upd r → r < lenR (finRes tr R) := by
  induction tr generalizing R with
  | nil => exact ⟨Nat.le_refl _, fun i e h => by simp at h⟩
  | cons a es ih =>
    simp only [finRes]
    obtain ⟨h1, h2⟩ := ih (R := updR R a.upd)
    have h3 := lenR_updR R a.upd
    refine ⟨Nat.le_trans h3.1 h1, fun i e he r hr => ?_⟩
    cases i with
    | zero => simp at he; subst he; obtain ⟨x, hx⟩ := hr; exact Nat.lt_of_lt_of_le (h3.2 r x hx) h1
    | succ i => exact h2 i e (by simpa using he) r hr

theorem finish_d (T : TrOk c Γ ops.toList st tr) {I0 : Nat → Prop} {E0 : Env} {a0 : Act} {w0 : World} (hfree : FreeFrom E0 (lenR st.res)) {s : Nat → Bool} {I : Nat → Prop} {E : Env} {a : Act} {w : World}
    (h : InvD c ops.toList st tr I0 E0 a0 w0 s I E a w) (hall : ∀ i, i < ops.toList.length → s i = true) :
    HoldS c I E ⟨finSlots ops.toList tr st.slots, finRes tr st.res⟩ a w ∧ Ext I0 E0 st.res w0 I E (finRes tr st.res) w := by
  have hres := finRes_eq tr s 0 st.res (fun i hi => hall _ (by rw [← T.len]; simpa using hi))
  refine ⟨⟨by rw [← hres]; exact h.hr, ?_, ?_, h.nodefer⟩, by rw [← hres]; exact h.ext⟩
  · refine ⟨by rw [length_finSlots]; exact h.size.symm, fun t x v hx hv => ?_⟩
    have hs := h.slots t
    have hx' : nth (finSlots ops.toList tr st.slots) t = x := by rw [nth_eq, List.getD_eq_getElem?_getD, hx]; rfl
    have hv' : a.tmps.getD t undef = v := by rw [Array.getD_eq_getD_getElem?, ← Array.getElem?_toList, hv]; rfl
    have hlt : t < st.slots.length := by
      rcases Nat.lt_or_ge t (finSlots ops.toList tr st.slots).length with h' | h'
      · rwa [length_finSlots] at h'
      · rw [List.getElem?_eq_none h'] at hx; cases hx
    rw [hv'] at hs
    have hslot : slotF ops.toList tr st.slots s t = x := by
      rw [← hx']
      unfold slotF
      cases hw : writerOf ops.toList t 0 with
      | none => exact (finSlots_none (writerOf_spec.2 hw) _ _).symm
      | some i =>
        obtain ⟨_, o, ho, hod⟩ := writerOf_spec.1 i hw
        simp only [Nat.sub_zero] at ho
        have hi : i < ops.toList.length := by
          rcases Nat.lt_or_ge i ops.toList.length with h' | h'
          · exact h'
          · rw [List.getElem?_eq_none h'] at ho; cases ho
        have hit : i < tr.length := by rw [T.len]; exact hi
        simp only [hall i hi, if_true, List.getElem?_eq_getElem hit]
        exact (finSlots_at ho hod (List.getElem?_eq_getElem hit) hlt (fun k p hp hk => T.dst k i o p ho hp (by omega) t hod)).symm
    rw [hslot] at hs
    exact hs
  · intro r hr
    have hd := dom_finRes (tr := tr) (R := st.res)
    have h0 := hfree r (by simp only at hr; omega)
    cases hE : E r with
    | none => rfl
    | some q =>
      obtain ⟨i, e, g1, g2, g3, g4⟩ := h.names r (by rw [hE, h0]; simp)
      have := hd.2 i e g2 r g3
      simp only at hr
      omega

theorem getD_set_true' {listed : Array Bool} {i : Nat} (h : i < listed.size) : (listed.setIfInBounds i true).getD i false = true := by
  rw [Array.getD_eq_getD_getElem?, Array.getElem?_setIfInBounds_self_of_lt h]; rfl

theorem length_filter_ne {l : List Nat} {j : Nat} (h : j ∈ l) : (l.filter (fun i => i != j)).length < l.length := by
  induction l with
  | nil => cases h
  | cons a l ih =>
    simp only [List.filter_cons]
    by_cases ha : a = j
    · subst ha
      simp only [bne_self_eq_false, Bool.false_eq_true, if_false, List.length_cons]
      exact Nat.lt_succ_of_le (List.length_filter_le _ _)
    · rcases List.mem_cons.1 h with rfl | h
      · exact absurd rfl ha
      · rw [if_pos (by simpa using ha)]
        simpa using ih h

theorem wpAny_d (hΓ : ∀ f g, Γ f = some g → GOk c f g) (T : TrOk c Γ ops.toList st tr) {I0 : Nat → Prop} {E0 : Env} {a0 : Act} {w0 : World} (hfree : FreeFrom E0 (lenR st.res)) {Q : Exit → Act → World → Prop}
    (hQ : ∀ a' w' I' E', Ext I0 E0 st.res w0 I' E' (finRes tr st.res) w' → HoldS c I' E' ⟨finSlots ops.toList tr st.slots, finRes tr st.res⟩ a' w' → Keeps ops.toList a0 a' → Names E0 st E' (⟨finSlots ops.toList tr st.slots, finRes tr st.res⟩ : St El) → Q .normal a' w') :
    ∀ (fuel : Nat) (listed : Array Bool) (I : Nat → Prop) (E : Env) (a : Act) (w : World), listed.size = ops.size → ((List.range ops.size).filter fun i => !listed.getD i false).length ≤ fuel →
      InvD c ops.toList st tr I0 E0 a0 w0 (fun i => listed.getD i false) I E a w → wpAny c.P .any ops Q fuel listed a w := by
  have full : ∀ (listed : Array Bool), listed.size = ops.size → Region.ready .any ops listed = [] → ∀ i, i < ops.size → listed.getD i false = true := by
    intro listed hsz hr i
    induction i using Nat.strongRecOn with
    | _ i ih =>
      intro hi
      cases hb : listed.getD i false with
      | true => rfl
      | false =>
        have : i ∈ Region.ready .any ops listed := by
          refine mem_ready.2 ⟨?_, ops[i], Array.getElem?_eq_getElem hi, fun e he hbd => ?_⟩
          · have hil : i < listed.size := by omega
            simpa [Array.getD_eq_getD_getElem?, Array.getElem?_eq_getElem hil] using hb
          · have hlt := T.edges i ops[i] (by simp [hi]) e (by simpa using he) hbd
            exact ih e.on hlt (by omega)
        rw [hr] at this; cases this
  have finish : ∀ (listed : Array Bool) (I : Nat → Prop) (E : Env) (a : Act) (w : World), listed.size = ops.size → InvD c ops.toList st tr I0 E0 a0 w0 (fun i => listed.getD i false) I E a w →
      (∀ i, i < ops.size → listed.getD i false = true) → Q .normal a w := by
    intro listed I E a w hsz h hall
    obtain ⟨h1, h2⟩ := finish_d T hfree h (fun i hi => hall i (by simpa using hi))
    refine hQ a w I E h2 h1 h.keeps ⟨fun r hr => ?_, dom_finRes.1⟩
    refine Classical.byContradiction fun hne => ?_
    obtain ⟨i, e, g1, g2, g3, g4⟩ := h.names r hne
    have := T.base i e g2
    omega
  intro fuel
  induction fuel with
  | zero =>
    intro listed I E a w hsz hcount h
    have hall : ∀ i, i < ops.size → listed.getD i false = true := by
      intro i hi
      cases hb : listed.getD i false with
      | true => rfl
      | false =>
        have : i ∈ (List.range ops.size).filter fun i => !listed.getD i false := List.mem_filter.2 ⟨List.mem_range.2 hi, by simp [hb]⟩
        have hnil : ((List.range ops.size).filter fun i => !listed.getD i false) = [] := List.eq_nil_of_length_eq_zero (by omega)
        rw [hnil] at this
        cases this
    refine ⟨?_, finish listed I E a w hsz h hall⟩
    apply List.eq_nil_iff_forall_not_mem.2
    intro j hj
    obtain ⟨h1, o, ho, _⟩ := mem_ready.1 hj
    have hjs : j < ops.size := (Array.getElem?_eq_some_iff.1 ho).1
    have := hall j hjs
    have hil : j < listed.size := by omega
    simp [Array.getD_eq_getD_getElem?, Array.getElem?_eq_getElem hil] at this h1
    rw [this] at h1; cases h1
  | succ fuel ih =>
    intro listed I E a w hsz hcount h
    refine ⟨fun hr => finish listed I E a w hsz h (full listed hsz hr), fun j hj => ?_⟩
    obtain ⟨h1, o, ho, hedges⟩ := mem_ready.1 hj
    have hjs : j < ops.size := (Array.getElem?_eq_some_iff.1 ho).1
    have hjl : j < listed.size := by omega
    have hns : listed.getD j false = false := by
      simpa [Array.getD_eq_getD_getElem?, Array.getElem?_eq_getElem hjl] using h1
    have hol : ops.toList[j]? = some o := by simpa using ho
    have hanc : ∀ i, (natAt (ancs ops.toList) j).testBit i = true → listed.getD i false = true := by
      intro i hi
      obtain ⟨e, g1, g2, g3⟩ := (ancs_bit hol).1 hi
      have he := hedges e (by simpa using g1) g2
      rcases g3 with rfl | ⟨_, g4⟩
      · exact he
      · exact h.closed i e.on he g4
    have hset : ∀ i, (listed.setIfInBounds j true).getD i false = (i == j || listed.getD i false) := by
      intro i
      by_cases hij : i = j
      · subst hij
        rw [getD_set_true' hjl]
        simp
      · rw [getD_set_ne false (Ne.symm hij)]
        simp [hij]
    have hcount' : ((List.range ops.size).filter fun i => !(listed.setIfInBounds j true).getD i false).length ≤ fuel := by
      have hsub : ((List.range ops.size).filter fun i => !(listed.setIfInBounds j true).getD i false) = ((List.range ops.size).filter fun i => !listed.getD i false).filter (fun i => i != j) := by
        rw [List.filter_filter]
        apply List.filter_congr
        intro i _
        rw [hset i]
        cases hb : (i == j) <;> simp [bne, hb]
      rw [hsub]
      have hmem : j ∈ (List.range ops.size).filter fun i => !listed.getD i false := List.mem_filter.2 ⟨List.mem_range.2 hjs, by simp [hns]⟩
      have := length_filter_ne hmem
      omega
    have hinv : ∀ {I' : Nat → Prop} {E' : Env} {a' : Act} {w' : World}, InvD c ops.toList st tr I0 E0 a0 w0 (fun i => i == j || listed.getD i false) I' E' a' w' →
        InvD c ops.toList st tr I0 E0 a0 w0 (fun i => (listed.setIfInBounds j true).getD i false) I' E' a' w' := by
      intro I' E' a' w' h'
      have : (fun i => (listed.setIfInBounds j true).getD i false) = (fun i => i == j || listed.getD i false) := funext hset
      rw [this]; exact h'
    unfold wpOp
    rw [ho]
    simp only
    rcases step_d (a := a) hΓ T hfree h hol hns hanc with ⟨b, t, x, hg, hy, hxt, h'⟩ | ⟨hg, hdoes⟩
    · rw [if_neg (by simp only [Region.wanted, hg, hy ops rfl]; simpa using hxt)]
      exact ih _ I E _ w (by simpa using hsz) hcount' (hinv h')
    · have hw : Region.wanted o (yielded ops a.tmps) = true := by
        rcases hg with hg | ⟨b, t, x, hg, hy, hxt⟩
        · simp [Region.wanted, hg]
        · simp only [Region.wanted, hg, hy ops rfl]; simpa using hxt
      rw [if_pos hw]
      refine .inl (hdoes _ _ ?_)
      rintro v w' ⟨I', E', h'⟩
      exact ih _ I' E' _ w' (by simpa using hsz) hcount' (hinv h')

theorem aregionD_ok (hΓ : ∀ f g, Γ f = some g → GOk c f g) {id : Nat} {Q : Exit → Act → World → Prop} {st' : St El} {I : Nat → Prop} {E : Env} {a : Act} {w : World} (ho : (aregionD c Γ ops.toList st).Out st')
    (h : HoldS c I E st a w) (hQ : ∀ a' w' I' E', Ext I E st.res w I' E' st'.res w' → HoldS c I' E' st' a' w' → Keeps ops.toList a a' → Names E st E' st' → Q .normal a' w') : (Code.region id ops true).wp c.P Q a w := by
  unfold aregionD at ho
  rw [Tree.out_bind] at ho
  obtain ⟨tr, ht, ho⟩ := ho
  obtain ⟨soft, hk, hlens, ho⟩ : ∃ soft, okD soft st.res st.slots ops.toList (ancs ops.toList) tr = true ∧ (soft = true → lens st.res tr) ∧ (⟨finSlots ops.toList tr st.slots, finRes tr st.res⟩ : St El) = st' := by
    split at ho
    · rename_i hk
      exact ⟨false, hk, fun h => (by cases h), ho⟩
    · split at ho
      · rename_i hk
        exact ⟨true, hk, fun _ => ho.1, ho.2⟩
      · exact ho.elim
  · subst ho
    have T := trOk_of ht hk hlens
    refine wp_region_any c.mixed (wpAny_d hΓ T h.free hQ ops.size _ I E a w.drew (by simp) ?_ ?_)
    · exact Nat.le_trans (List.length_filter_le _ _) (by simp)
    · have hf := Fr.drew w
      have hno : (fun i => (Array.replicate ops.size false).getD i false) = fun _ => false := by
        funext i
        simp only [Array.getD_eq_getD_getElem?, Array.getElem?_replicate]
        split <;> rfl
      rw [hno]
      have hres : ∀ r, getR (resF (fun _ => false) tr 0 st.res) r = getR st.res r := fun r => resF_none (fun _ _ _ _ => rfl)
      have hslots : SlotsOk c I w.drew E st.slots a := Reps.mono h.slots (fun _ h => h) (fun _ _ => rfl) (Env.le_refl _)
      refine ⟨(h.hr.grow hf).congr hres, fun t => ?_, ?_, h.nodefer, ⟨fun _ h => h, Env.le_refl _, hf.weaken (fun _ h => h.elim), fun _ h => .inl h, ?_⟩, fun r hr => absurd rfl hr, ⟨rfl, fun _ _ => rfl⟩, fun i j hj => by cases hj⟩
      · have hslot : slotF ops.toList tr st.slots (fun _ => false) t = nth st.slots t := by
          unfold slotF
          split <;> simp
        rw [hslot]
        have := hslots.getD t undef
        simpa [Array.getD_eq_getD_getElem?, List.getD_eq_getElem?_getD] using this
      · exact (Reps.len h.slots).symm
      · rintro b ⟨r, e, g1, g2, g3⟩
        exact .inl ⟨r, e, by rwa [hres] at g1, g2, g3⟩
end
end Go.Ax
