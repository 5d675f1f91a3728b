/- A verified symbolic executor, part 14: a region that draws its order, as a whole. Over any program; the facts on its types are given with it. -/
import Derived.Test.YtbadejabphdkiaaAx13
set_option linter.unusedVariables false
set_option linter.unusedSimpArgs false
namespace Go.Ax
variable {El : TypeId → Type}
section
variable {c : Cx El} {Γ : FuncId → Option (GSpec El)} {ops : Array Oper} {st : St El} {tr : List (Ent El)}

theorem nth_setT (l : List (AVal El)) (d : Option Tmp) (v : AVal El) (t : Tmp) : nth (setT l d v) t = if d = some t ∧ t < l.length then v else nth l t := by
  cases d with
  | none => simp [setT]
  | some d =>
    simp only [setT, setF_eq, nth_eq, List.getD_eq_getElem?_getD, List.getElem?_set, Option.some.injEq]
    by_cases h : d = t
    · subst h
      by_cases hl : d < l.length
      · simp [hl]
      · simp [hl]
    · simp [h]
theorem length_setT (l : List (AVal El)) (d : Option Tmp) (v : AVal El) : (setT l d v).length = l.length := by
  cases d <;> simp [setT, setF_eq]
theorem length_finSlots (os : List Oper) (es : List (Ent El)) (l : List (AVal El)) : (finSlots os es l).length = l.length := by
  induction os generalizing es l with
  | nil => simp [finSlots]
  | cons o os ih => cases es with
    | nil => simp [finSlots]
    | cons e es => simp [finSlots, ih, length_setT]
theorem finSlots_none {os : List Oper} {t : Tmp} (h : ∀ (i : Nat) (o : Oper), os[i]? = some o → o.dst ≠ some t) (es : List (Ent El)) (l : List (AVal El)) : nth (finSlots os es l) t = nth l t := by
  induction os generalizing es l with
  | nil => simp [finSlots]
  | cons o os ih => cases es with
    | nil => simp [finSlots]
    | cons e es =>
      simp only [finSlots]
      rw [ih (fun i o' ho' => h (i + 1) o' (by simpa using ho')), nth_setT, if_neg (fun hh => h 0 o rfl hh.1)]
theorem finSlots_at {os : List Oper} {t : Tmp} {i : Nat} {o : Oper} {es : List (Ent El)} {e : Ent El} {l : List (AVal El)} (ho : os[i]? = some o) (hd : o.dst = some t) (he : es[i]? = some e) (hlt : t < l.length)
    (h : ∀ (k : Nat) (p : Oper), os[k]? = some p → i < k → p.dst ≠ some t) : nth (finSlots os es l) t = e.val := by
  induction os generalizing i es l with
  | nil => simp at ho
  | cons o' os ih =>
    cases es with
    | nil => simp at he
    | cons e' es =>
      simp only [finSlots]
      cases i with
      | zero =>
        simp at ho he; subst ho; subst he
        rw [finSlots_none (fun k p hp => h (k + 1) p (by simpa using hp) (by omega)), nth_setT, if_pos ⟨hd, hlt⟩]
      | succ i =>
        exact ih (by simpa using ho) (by simpa using he) (by rw [length_setT]; exact hlt) (fun k p hp hk => h (k + 1) p (by simpa using hp) (by omega))

theorem finRes_eq (tr : List (Ent El)) (m : Nat → Bool) (k : Nat) (R : List (Res El)) (h : ∀ i, i < tr.length → m (k + i) = true) : resF m tr k R = finRes tr R := by
  induction tr generalizing k R with
  | nil => rfl
  | cons e es ih =>
    simp only [resF, finRes]
    rw [if_pos (by simpa using h 0 (by simp)), ih (k + 1) _ (fun i hi => by
      have := h (i + 1) (by simpa using hi)
      rwa [show k + (i + 1) = k + 1 + i from by omega] at this)]

theorem dom_finRes {tr : List (Ent El)} {R : List (Res El)} : lenR R ≤ lenR (finRes tr R) ∧ ∀ (i : Nat) (e : Ent El), tr[i]? = some e → ∀ r, Dom e.upd r → r < lenR (finRes tr R) := by
  induction tr generalizing R with
  | nil => exact ⟨Nat.le_refl _, fun i e h => by simp at h⟩
  | cons a es ih =>
    simp only [finRes]
    obtain ⟨h1, h2⟩ := ih (R := updR R a.upd)
    have h3 := lenR_updR R a.upd
    refine ⟨Nat.le_trans h3.1 h1, fun i e he r hr => ?_⟩
    cases i with
    | zero => simp at he; subst he; obtain ⟨x, hx⟩ := hr; exact Nat.lt_of_lt_of_le (h3.2 r x hx) h1
    | succ i => exact h2 i e (by simpa using he) r hr

theorem finish_d (T : TrOk c Γ ops.toList st tr) {I0 : Nat → Prop} {E0 : Env} {a0 : Act} {w0 : World} (hfree : FreeFrom E0 (lenR st.res)) {s : Nat → Bool} {I : Nat → Prop} {E : Env} {a : Act} {w : World}
    (h : InvD c ops.toList st tr I0 E0 a0 w0 s I E a w) (hall : ∀ i, i < ops.toList.length → s i = true) :
    HoldS c I E ⟨finSlots ops.toList tr st.slots, finRes tr st.res⟩ a w ∧ Ext I0 E0 st.res w0 I E (finRes tr st.res) w := by
  have hres := finRes_eq tr s 0 st.res (fun i hi => hall _ (by rw [← T.len]; simpa using hi))
  refine ⟨⟨by rw [← hres]; exact h.hr, ?_, ?_, h.nodefer⟩, by rw [← hres]; exact h.ext⟩
  · refine ⟨by rw [length_finSlots]; exact h.size.symm, fun t x v hx hv => ?_⟩
    have hs := h.slots t
    have hx' : nth (finSlots ops.toList tr st.slots) t = x := by rw [nth_eq, List.getD_eq_getElem?_getD, hx]; rfl
    have hv' : a.tmps.getD t undef = v := by rw [Array.getD_eq_getD_getElem?, ← Array.getElem?_toList, hv]; rfl
    have hlt : t < st.slots.length := by
      rcases Nat.lt_or_ge t (finSlots ops.toList tr st.slots).length with h' | h'
      · rwa [length_finSlots] at h'
      · rw [List.getElem?_eq_none h'] at hx; cases hx
    rw [hv'] at hs
    have hslot : slotF ops.toList tr st.slots s t = x := by
      rw [← hx']
      unfold slotF
      cases hw : writerOf ops.toList t 0 with
      | none => exact (finSlots_none (writerOf_spec.2 hw) _ _).symm
      | some i =>
        obtain ⟨_, o, ho, hod⟩ := writerOf_spec.1 i hw
        simp only [Nat.sub_zero] at ho
        have hi : i < ops.toList.length := by
          rcases Nat.lt_or_ge i ops.toList.length with h' | h'
          · exact h'
          · rw [List.getElem?_eq_none h'] at ho; cases ho
        have hit : i < tr.length := by rw [T.len]; exact hi
        simp only [hall i hi, if_true, List.getElem?_eq_getElem hit]
        exact (finSlots_at ho hod (List.getElem?_eq_getElem hit) hlt (fun k p hp hk => T.dst k i o p ho hp (by omega) t hod)).symm
    rw [hslot] at hs
    exact hs
  · intro r hr
    have hd := dom_finRes (tr := tr) (R := st.res)
    have h0 := hfree r (by simp only at hr; omega)
    cases hE : E r with
    | none => rfl
    | some q =>
      obtain ⟨i, e, g1, g2, g3, g4⟩ := h.names r (by rw [hE, h0]; simp)
      have := hd.2 i e g2 r g3
      simp only at hr
      omega

theorem getD_set_true' {listed : Array Bool} {i : Nat} (h : i < listed.size) : (listed.setIfInBounds i true).getD i false = true := by
  rw [Array.getD_eq_getD_getElem?, Array.getElem?_setIfInBounds_self_of_lt h]; rfl

theorem length_filter_ne {l : List Nat} {j : Nat} (h : j ∈ l) : (l.filter (fun i => i != j)).length < l.length := by
  induction l with
  | nil => cases h
  | cons a l ih =>
    simp only [List.filter_cons]
    by_cases ha : a = j
    · subst ha
      simp only [bne_self_eq_false, Bool.false_eq_true, if_false, List.length_cons]
      exact Nat.lt_succ_of_le (List.length_filter_le _ _)
    · rcases List.mem_cons.1 h with rfl | h
      · exact absurd rfl ha
      · rw [if_pos (by simpa using ha)]
        simpa using ih h

theorem wpAny_d (hΓ : ∀ f g, Γ f = some g → GOk c f g) (T : TrOk c Γ ops.toList st tr) {I0 : Nat → Prop} {E0 : Env} {a0 : Act} {w0 : World} (hfree : FreeFrom E0 (lenR st.res)) {Q : Exit → Act → World → Prop}
    (hQ : ∀ a' w' I' E', Ext I0 E0 st.res w0 I' E' (finRes tr st.res) w' → HoldS c I' E' ⟨finSlots ops.toList tr st.slots, finRes tr st.res⟩ a' w' → Keeps ops.toList a0 a' → Names E0 st E' (⟨finSlots ops.toList tr st.slots, finRes tr st.res⟩ : St El) → Q .normal a' w') :
    ∀ (fuel : Nat) (listed : Array Bool) (I : Nat → Prop) (E : Env) (a : Act) (w : World), listed.size = ops.size → ((List.range ops.size).filter fun i => !listed.getD i false).length ≤ fuel →
      InvD c ops.toList st tr I0 E0 a0 w0 (fun i => listed.getD i false) I E a w → wpAny c.P .any ops Q fuel listed a w := by
  have full : ∀ (listed : Array Bool), listed.size = ops.size → Region.ready .any ops listed = [] → ∀ i, i < ops.size → listed.getD i false = true := by
    intro listed hsz hr i
    induction i using Nat.strongRecOn with
    | _ i ih =>
      intro hi
      cases hb : listed.getD i false with
      | true => rfl
      | false =>
        have : i ∈ Region.ready .any ops listed := by
          refine mem_ready.2 ⟨?_, ops[i], Array.getElem?_eq_getElem hi, fun e he hbd => ?_⟩
          · have hil : i < listed.size := by omega
            simpa [Array.getD_eq_getD_getElem?, Array.getElem?_eq_getElem hil] using hb
          · have hlt := T.edges i ops[i] (by simp [hi]) e (by simpa using he) hbd
            exact ih e.on hlt (by omega)
        rw [hr] at this; cases this
  have finish : ∀ (listed : Array Bool) (I : Nat → Prop) (E : Env) (a : Act) (w : World), listed.size = ops.size → InvD c ops.toList st tr I0 E0 a0 w0 (fun i => listed.getD i false) I E a w →
      (∀ i, i < ops.size → listed.getD i false = true) → Q .normal a w := by
    intro listed I E a w hsz h hall
    obtain ⟨h1, h2⟩ := finish_d T hfree h (fun i hi => hall i (by simpa using hi))
    refine hQ a w I E h2 h1 h.keeps ⟨fun r hr => ?_, dom_finRes.1⟩
    refine Classical.byContradiction fun hne => ?_
    obtain ⟨i, e, g1, g2, g3, g4⟩ := h.names r hne
    have := T.base i e g2
    omega
  intro fuel
  induction fuel with
  | zero =>
    intro listed I E a w hsz hcount h
    have hall : ∀ i, i < ops.size → listed.getD i false = true := by
      intro i hi
      cases hb : listed.getD i false with
      | true => rfl
      | false =>
        have : i ∈ (List.range ops.size).filter fun i => !listed.getD i false := List.mem_filter.2 ⟨List.mem_range.2 hi, by simp [hb]⟩
        have hnil : ((List.range ops.size).filter fun i => !listed.getD i false) = [] := List.eq_nil_of_length_eq_zero (by omega)
        rw [hnil] at this
        cases this
    refine ⟨?_, finish listed I E a w hsz h hall⟩
    apply List.eq_nil_iff_forall_not_mem.2
    intro j hj
    obtain ⟨h1, o, ho, _⟩ := mem_ready.1 hj
    have hjs : j < ops.size := (Array.getElem?_eq_some_iff.1 ho).1
    have := hall j hjs
    have hil : j < listed.size := by omega
    simp [Array.getD_eq_getD_getElem?, Array.getElem?_eq_getElem hil] at this h1
    rw [this] at h1; cases h1
  | succ fuel ih =>
    intro listed I E a w hsz hcount h
    refine ⟨fun hr => finish listed I E a w hsz h (full listed hsz hr), fun j hj => ?_⟩
    obtain ⟨h1, o, ho, hedges⟩ := mem_ready.1 hj
    have hjs : j < ops.size := (Array.getElem?_eq_some_iff.1 ho).1
    have hjl : j < listed.size := by omega
    have hns : listed.getD j false = false := by
      simpa [Array.getD_eq_getD_getElem?, Array.getElem?_eq_getElem hjl] using h1
    have hol : ops.toList[j]? = some o := by simpa using ho
    have hanc : ∀ i, (natAt (ancs ops.toList) j).testBit i = true → listed.getD i false = true := by
      intro i hi
      obtain ⟨e, g1, g2, g3⟩ := (ancs_bit hol).1 hi
      have he := hedges e (by simpa using g1) g2
      rcases g3 with rfl | ⟨_, g4⟩
      · exact he
      · exact h.closed i e.on he g4
    have hset : ∀ i, (listed.setIfInBounds j true).getD i false = (i == j || listed.getD i false) := by
      intro i
      by_cases hij : i = j
      · subst hij
        rw [getD_set_true' hjl]
        simp
      · rw [getD_set_ne false (Ne.symm hij)]
        simp [hij]
    have hcount' : ((List.range ops.size).filter fun i => !(listed.setIfInBounds j true).getD i false).length ≤ fuel := by
      have hsub : ((List.range ops.size).filter fun i => !(listed.setIfInBounds j true).getD i false) = ((List.range ops.size).filter fun i => !listed.getD i false).filter (fun i => i != j) := by
        rw [List.filter_filter]
        apply List.filter_congr
        intro i _
        rw [hset i]
        cases hb : (i == j) <;> simp [bne, hb]
      rw [hsub]
      have hmem : j ∈ (List.range ops.size).filter fun i => !listed.getD i false := List.mem_filter.2 ⟨List.mem_range.2 hjs, by simp [hns]⟩
      have := length_filter_ne hmem
      omega
    have hinv : ∀ {I' : Nat → Prop} {E' : Env} {a' : Act} {w' : World}, InvD c ops.toList st tr I0 E0 a0 w0 (fun i => i == j || listed.getD i false) I' E' a' w' →
        InvD c ops.toList st tr I0 E0 a0 w0 (fun i => (listed.setIfInBounds j true).getD i false) I' E' a' w' := by
      intro I' E' a' w' h'
      have : (fun i => (listed.setIfInBounds j true).getD i false) = (fun i => i == j || listed.getD i false) := funext hset
      rw [this]; exact h'
    unfold wpOp
    rw [ho]
    simp only
    rcases step_d (a := a) hΓ T hfree h hol hns hanc with ⟨b, t, x, hg, hy, hxt, h'⟩ | ⟨hg, hdoes⟩
    · rw [if_neg (by simp only [Region.wanted, hg, hy ops rfl]; simpa using hxt)]
      exact ih _ I E _ w (by simpa using hsz) hcount' (hinv h')
    · have hw : Region.wanted o (yielded ops a.tmps) = true := by
        rcases hg with hg | ⟨b, t, x, hg, hy, hxt⟩
        · simp [Region.wanted, hg]
        · simp only [Region.wanted, hg, hy ops rfl]; simpa using hxt
      rw [if_pos hw]
      refine .inl (hdoes _ _ ?_)
      rintro v w' ⟨I', E', h'⟩
      exact ih _ I' E' _ w' (by simpa using hsz) hcount' (hinv h')

end

/-! A region that only reads: its operations in the text's order, over slots alone. -/

/-- What an operation looks at. -/
def opsOf : Op → List Operand
  | .move x => [x]
  | .assign x => [x]
  | .nilCheck x => [x]
  | .box _ x => [x]
  | .unOp _ _ x => [x]
  | .convert _ _ x => [x]
  | .load _ x => [x]
  | .fieldAddr _ x _ => [x]
  | .extract x _ => [x]
  | .pick a b d => [a, b, d]
  | .build _ parts => parts.toList.map (·.2)
  | .buildSlice _ _ parts => parts.toList.map (·.2)
  | .store _ a x => [a, x]
  | .binOp _ _ x y _ => [x, y]
  | .makeFunc _ _ caps => caps.toList
  | .makeSlice _ l k => [l, k]
  | .slice _ x lo hi mx => x :: (lo.toList ++ (hi.toList ++ mx.toList))
  | .indexAddr _ x i => [x, i]
  | .index _ x i => [x, i]
  | .lookup _ m k _ => [m, k]
  | .mapUpdate _ m k x => [m, k, x]
  | .insert _ m k x => [m, k, x]
  | .call cl => (match cl.callee with | .value (.tmp t) => .tmp t :: cl.args.toList | _ => cl.args.toList)
  | _ => []

theorem mapA_congr {ρ ρ' : Operand → AVal El} {l : List Operand} (h : ∀ x ∈ l, ρ x = ρ' x) : mapA ρ l = mapA ρ' l := by
  induction l with
  | nil => rfl
  | cons x l ih => simp only [mapA]; rw [h x (by simp), ih (fun y hy => h y (by simp [hy]))]
theorem mapP_congr {ρ ρ' : Operand → AVal El} {l : List (Nat × Operand)} (h : ∀ x ∈ l.map (·.2), ρ x = ρ' x) : mapP ρ l = mapP ρ' l := by
  induction l with
  | nil => rfl
  | cons x l ih =>
    obtain ⟨i, x⟩ := x
    simp only [mapP]; rw [h x (by simp), ih (fun y hy => h y (by simp only [List.map_cons]; exact List.mem_cons_of_mem _ hy))]

theorem aop_congr {c : Cx El} {Γ : FuncId → Option (GSpec El)} {R : List (Res El)} {base : Nat} {ρ ρ' : Operand → AVal El} {o : Op} (h : ∀ x ∈ opsOf o, ρ x = ρ' x) : aop c Γ R base ρ o = aop c Γ R base ρ' o := by
  cases o with
  | pick a b d => simp only [aop]; rw [h a (by simp [opsOf]), h b (by simp [opsOf]), h d (by simp [opsOf])]
  | build t parts => simp only [aop]; rw [mapP_congr h]
  | buildSlice t n parts => simp only [aop]; rw [mapP_congr h]
  | makeFunc f first caps =>
    have := mapA_congr (l := caps.toList) h
    cases f <;> simp only [aop]
    rw [this]
  | slice t x lo hi mx =>
    simp only [aop]
    have h1 : lo.map ρ = lo.map ρ' := by cases lo <;> simp; exact h _ (by simp [opsOf])
    have h2 : hi.map ρ = hi.map ρ' := by cases hi <;> simp; exact h _ (by simp [opsOf])
    have h3 : mx.map ρ = mx.map ρ' := by cases mx <;> simp; exact h _ (by simp [opsOf])
    rw [h x (by simp [opsOf]), h1, h2, h3]
  | call cl =>
    cases cl with | mk callee args ats =>
    cases callee with
    | value v =>
      cases v with
      | tmp t =>
        have ha : mapA ρ args.toList = mapA ρ' args.toList := mapA_congr (fun x hx => h x (by simp only [opsOf]; exact List.mem_cons_of_mem _ hx))
        have ht : ρ (.tmp t) = ρ' (.tmp t) := h _ (by simp [opsOf])
        simp only [aop]; rw [ha, ht]
      | func f =>
        have ha : mapA ρ args.toList = mapA ρ' args.toList := mapA_congr h
        simp only [aop]; rw [ha]
      | _ => simp only [aop]
    | builtin b =>
      have ha : mapA ρ args.toList = mapA ρ' args.toList := mapA_congr h
      simp only [aop]; rw [ha]
    | _ => simp only [aop]
  | move x => simp only [aop]; rw [h x (by simp [opsOf])]
  | assign x => simp only [aop]; rw [h x (by simp [opsOf])]
  | nilCheck x => simp only [aop]; rw [h x (by simp [opsOf])]
  | box e x => simp only [aop]; rw [h x (by simp [opsOf])]
  | unOp u t x => simp only [aop]; rw [h x (by simp [opsOf])]
  | convert s d x => simp only [aop]; rw [h x (by simp [opsOf])]
  | load t x => simp only [aop]; rw [h x (by simp [opsOf])]
  | fieldAddr s x f => simp only [aop]; rw [h x (by simp [opsOf])]
  | extract x i => simp only [aop]; rw [h x (by simp [opsOf])]
  | store t a x => simp only [aop]; rw [h a (by simp [opsOf]), h x (by simp [opsOf])]
  | binOp op t x y t' => simp only [aop]; rw [h x (by simp [opsOf]), h y (by simp [opsOf])]
  | makeSlice t l k => simp only [aop]; rw [h l (by simp [opsOf]), h k (by simp [opsOf])]
  | indexAddr t x i => simp only [aop]; rw [h x (by simp [opsOf]), h i (by simp [opsOf])]
  | index t x i => simp only [aop]; rw [h x (by simp [opsOf]), h i (by simp [opsOf])]
  | lookup t m k ok => simp only [aop]; rw [h m (by simp [opsOf]), h k (by simp [opsOf])]
  | mapUpdate t m k x => simp only [aop]; rw [h m (by simp [opsOf]), h k (by simp [opsOf]), h x (by simp [opsOf])]
  | insert t m k x => simp only [aop]; rw [h m (by simp [opsOf]), h k (by simp [opsOf]), h x (by simp [opsOf])]
  | makeMap t r => cases r <;> simp only [aop]
  | _ => simp only [aop]

/-- What operation 'j' looks at is what the text's order shows. -/
def okX (all : List Oper) (an : List Nat) (j : Nat) : Operand → Bool
  | .tmp t => match writerOf all t 0 with
    | none => true
    | some i => if (natAt an j).testBit i = true then Nat.ble (i + 1) j else Nat.ble j i && (Nat.beq i j || (natAt an i).testBit j)
  | _ => true
def okXs (all : List Oper) (an : List Nat) (j : Nat) : List Operand → Bool
  | [] => true
  | x :: xs => okX all an j x && okXs all an j xs
def okBack (j : Nat) : List Edge → Bool
  | [] => true
  | e :: es => (!Region.binds .any e || Nat.ble (e.on + 1) j) && okBack j es
def okSF (all : List Oper) (an : List Nat) (n : Nat) : List Oper → Nat → Bool
  | [], _ => true
  | o :: os, j => okBack j o.after.toList && okXs all an j (opsOf o.op) &&
      (match o.guard with | none => true | some (g, _) => match dstOf all g with | some t => okX all an j (.tmp t) | none => false) &&
      (match o.dst with | none => true | some d => Nat.ble (d + 1) n && (match writerOf all d 0 with | some i => Nat.beq i j | none => false)) && okSF all an n os (j + 1)
def okS (all : List Oper) (n : Nat) : Bool := okSF all (ancs all) n all 0

def shIf {X : Type} (b : Bool) (l : List (AVal El)) (k : List (AVal El) → X) : X := match b with
  | true => k l
  | false => shL l k
theorem shIf_eq {X : Type} (b : Bool) (l : List (AVal El)) (k : List (AVal El) → X) : shIf b l k = k l := by
  cases b
  · exact shL_eq l k
  · rfl

/-- Operations that only read, over slots. None: one did more. -/
def aregionQ (c : Cx El) (Γ : FuncId → Option (GSpec El)) (R : List (Res El)) (base : Nat) (all : List Oper) : List Oper → Option Nat → List (AVal El) → Tree (Option (List (AVal El)))
  | [], _, sl => .leaf (some sl)
  | o :: rest, pg, sl => match o.guard with
    | none => (aop c Γ R base (evA sl) o.op).bind fun y => match y.2 with
      | [] => aregionQ c Γ R base all rest none (setT sl o.dst y.1)
      | _ => .leaf none
    | some (g, want) => shIf (sameG pg g) sl fun sl => match dstOf all g with
      | some t => match nth sl t with
        | .bool b => .node (b == want)
            ((aop c Γ R base (evA (setF sl t (.bool want))) o.op).bind fun y => match y.2 with
              | [] => aregionQ c Γ R base all rest (some g) (setT (setF sl t (.bool want)) o.dst y.1)
              | _ => .leaf none)
            (aregionQ c Γ R base all rest (some g) (setT (setF sl t (.bool !want)) o.dst .top))
        | _ => .fail
      | none => .fail

section quick
variable {c : Cx El} {Γ : FuncId → Option (GSpec El)} {all : List Oper} {st : St El}

theorem okXs_mem {an : List Nat} {j : Nat} {xs : List Operand} (h : okXs all an j xs = true) : ∀ x ∈ xs, okX all an j x = true := by
  induction xs with
  | nil => intro x hx; cases hx
  | cons y ys ih =>
    simp only [okXs, Bool.and_eq_true] at h
    intro x hx
    rcases List.mem_cons.1 hx with rfl | hx
    · exact h.1
    · exact ih h.2 x hx
theorem okBack_mem {j : Nat} {es : List Edge} (h : okBack j es = true) : ∀ e ∈ es, Region.binds .any e = true → e.on < j := by
  induction es with
  | nil => intro e he; cases he
  | cons y ys ih =>
    simp only [okBack, Bool.and_eq_true, Bool.or_eq_true] at h
    intro e he hb
    rcases List.mem_cons.1 he with rfl | he
    · rcases h.1 with h1 | h1
      · rw [hb] at h1; cases h1
      · exact Nat.le_of_ble_eq_true h1
    · exact ih h.2 e he hb

/-- What the check says of one operation. -/
structure QOk (all : List Oper) (n : Nat) (j : Nat) (o : Oper) : Prop where
  back : ∀ e ∈ o.after.toList, Region.binds .any e = true → e.on < j
  opnds : ∀ x ∈ opsOf o.op, okX all (ancs all) j x = true
  guard : ∀ g w, o.guard = some (g, w) → ∀ t, dstOf all g = some t → okX all (ancs all) j (.tmp t) = true
  room : ∀ d, o.dst = some d → d < n
  first : ∀ d, o.dst = some d → writerOf all d 0 = some j

theorem okSF_at {n : Nat} {l : List Oper} {k : Nat} (h : okSF all (ancs all) n l k = true) : ∀ (i : Nat) (o : Oper), l[i]? = some o → QOk all n (k + i) o := by
  induction l generalizing k with
  | nil => intro i o ho; simp at ho
  | cons p os ih =>
    simp only [okSF, Bool.and_eq_true] at h
    obtain ⟨⟨⟨⟨h1, h2⟩, h3⟩, h4⟩, h5⟩ := h
    intro i o ho
    cases i with
    | zero =>
      simp at ho; subst ho
      refine ⟨okBack_mem h1, okXs_mem h2, fun g w hg t ht => ?_, fun d hd => ?_, fun d hd => ?_⟩
      · rw [hg] at h3; simp only [ht] at h3; exact h3
      · rw [hd] at h4; simp only [Bool.and_eq_true] at h4; exact Nat.le_of_ble_eq_true h4.1
      · rw [hd] at h4; simp only [Bool.and_eq_true] at h4
        have := h4.2
        cases hw : writerOf all d 0 with
        | none => rw [hw] at this; cases this
        | some i => rw [hw] at this; simp only at this; rw [Nat.eq_of_beq_eq_true this]; rfl
    | succ i =>
      have := ih h5 i o (by simpa using ho)
      rwa [show k + 1 + i = k + (i + 1) from by omega] at this

theorem okS_at {n : Nat} (h : okS all n = true) {i : Nat} {o : Oper} (ho : all[i]? = some o) : QOk all n i o := by
  have := okSF_at h i o ho
  rwa [Nat.zero_add] at this

theorem okS_dst {n : Nat} (h : okS all n = true) (i j : Nat) (o p : Oper) (ho : all[j]? = some o) (hp : all[i]? = some p) (hij : i ≠ j) (d : Tmp) (hd : o.dst = some d) : p.dst ≠ some d := by
  intro hpd
  have h1 := (okS_at h ho).first d hd
  have h2 := (okS_at h hp).first d hpd
  rw [h1] at h2
  cases h2
  exact hij rfl

theorem resF_quiet {tr : List (Ent El)} (h : ∀ e ∈ tr, e.upd = []) (m : Nat → Bool) (k : Nat) (R : List (Res El)) : resF m tr k R = R := by
  induction tr generalizing k with
  | nil => rfl
  | cons e es ih =>
    simp only [resF]
    rw [h e (by simp)]
    simp only [updR, ite_self]
    exact ih (fun x hx => h x (by simp [hx])) _
theorem finRes_quiet {tr : List (Ent El)} (h : ∀ e ∈ tr, e.upd = []) (R : List (Res El)) : finRes tr R = R := by
  induction tr generalizing R with
  | nil => rfl
  | cons e es ih =>
    simp only [finRes]
    rw [h e (by simp)]
    simp only [updR]
    exact ih (fun x hx => h x (by simp [hx])) _
theorem finSlots_snoc {os : List Oper} {es : List (Ent El)} {o : Oper} {e : Ent El} {l : List (AVal El)} (h : os.length = es.length) : finSlots (os ++ [o]) (es ++ [e]) l = setT (finSlots os es l) o.dst e.val := by
  induction os generalizing es l with
  | nil => cases es with
    | nil => rfl
    | cons _ _ => simp at h
  | cons p os ih => cases es with
    | nil => simp at h
    | cons q es =>
      simp only [List.cons_append, finSlots]
      exact ih (by simpa using h)

theorem evA_evM (hk : okS all st.slots.length = true) {j : Nat} {o : Oper} {tr : List (Ent El)} (ho : all[j]? = some o) (hlen : tr.length = j) {x : Operand} (hx : okX all (ancs all) j x = true) :
    evA (finSlots (all.take j) tr st.slots) x = evM all (ancs all) st.slots tr j x := by
  cases x with
  | tmp t =>
    simp only [evA, evM]
    simp only [okX] at hx
    cases hw : writerOf all t 0 with
    | none =>
      simp only
      exact finSlots_none (fun i p hp => writerOf_spec.2 hw i p (by
        rw [List.getElem?_take] at hp; split at hp
        · exact hp
        · cases hp)) _ _
    | some i =>
      rw [hw] at hx
      simp only at hx ⊢
      obtain ⟨_, p, hp, hpd⟩ := writerOf_spec.1 i hw
      simp only [Nat.sub_zero] at hp
      have hroom := (okS_at hk hp).room t hpd
      split at hx
      · rename_i hb
        have hij : i < j := Nat.le_of_ble_eq_true hx
        rw [if_pos hb, entAt_eq]
        have hi : i < tr.length := by omega
        rw [List.getElem?_eq_getElem hi]
        simp only
        refine finSlots_at (i := i) (o := p) ?_ hpd (List.getElem?_eq_getElem hi) hroom (fun k q hq hik => ?_)
        · rw [List.getElem?_take, if_pos hij]; exact hp
        · rw [List.getElem?_take] at hq
          split at hq
          · exact okS_dst hk k i p q hp hq (by omega) t hpd
          · cases hq
      · rename_i hb
        rw [if_neg hb]
        simp only [Bool.and_eq_true, Bool.or_eq_true] at hx
        have hji : j ≤ i := Nat.le_of_ble_eq_true hx.1
        rw [if_pos (hx.2.imp Nat.eq_of_beq_eq_true id)]
        refine finSlots_none (fun k q hq => ?_) _ _
        rw [List.getElem?_take] at hq
        split at hq
        · exact okS_dst hk k i p q hp hq (by omega) t hpd
        · cases hq
  | _ => rfl

theorem aregionQ_tr (hk : okS all st.slots.length = true) {l : List Oper} {j : Nat} {pg : Option Nat} {tr : List (Ent El)} {sl' : List (AVal El)} (hl : all.drop j = l) (hlen : tr.length = j) (hq : ∀ e ∈ tr, e.upd = [] ∧ e.base = lenR st.res)
    (ho : (aregionQ c Γ st.res (lenR st.res) all l pg (finSlots (all.take j) tr st.slots)).Out (some sl')) :
    ∃ ext, ext.length = l.length ∧ (∀ e ∈ tr ++ ext, e.upd = [] ∧ e.base = lenR st.res) ∧ (∀ (k : Nat) (o : Oper) (e : Ent El), l[k]? = some o → ext[k]? = some e → Fact c Γ all st (tr ++ ext) (j + k) o e) ∧
      sl' = finSlots (all.take (j + l.length)) (tr ++ ext) st.slots := by
  induction l generalizing j pg tr with
  | nil =>
    simp only [aregionQ, Tree.Out, Option.some.injEq] at ho
    exact ⟨[], rfl, by simpa using hq, fun k o e h => by simp at h, by simp [← ho]⟩
  | cons o rest ih =>
    have hj : all[j]? = some o := by
      have := congrArg (fun l => l[0]?) hl
      simpa using this
    have hjl : j < all.length := (List.getElem?_eq_some_iff.1 hj).1
    have hrest : all.drop (j + 1) = rest := by
      have := congrArg List.tail hl
      simpa using this
    have htake : all.take (j + 1) = all.take j ++ [o] := by
      rw [List.take_add_one, hj]; rfl
    have hquiet : ∀ e ∈ tr, e.upd = [] := fun e he => (hq e he).1
    have hsame : ∀ x, okX all (ancs all) j x = true → evA (finSlots (all.take j) tr st.slots) x = evM all (ancs all) st.slots tr j x := fun x hx => evA_evM hk hj hlen hx
    have step : ∀ (x : Ent El) (pg' : Option Nat), x.upd = [] → x.base = lenR st.res → (∀ tr', tr'.take j = tr → Fact c Γ all st tr' j o x) →
        (aregionQ c Γ st.res (lenR st.res) all rest pg' (setT (finSlots (all.take j) tr st.slots) o.dst x.val)).Out (some sl') →
        ∃ ext, ext.length = (o :: rest).length ∧ (∀ e ∈ tr ++ ext, e.upd = [] ∧ e.base = lenR st.res) ∧ (∀ (k : Nat) (o' : Oper) (e : Ent El), (o :: rest)[k]? = some o' → ext[k]? = some e → Fact c Γ all st (tr ++ ext) (j + k) o' e) ∧
          sl' = finSlots (all.take (j + (o :: rest).length)) (tr ++ ext) st.slots := by
      intro x pg' hx hb hf h'
      rw [← finSlots_snoc (by rw [List.length_take, hlen]; omega), ← htake] at h'
      obtain ⟨ext, h1, h2, h3, h4⟩ := ih (tr := tr ++ [x]) hrest (by simp [hlen]) (fun e he => by
        rcases List.mem_append.1 he with he | he
        · exact hq e he
        · rw [List.mem_singleton] at he; subst he; exact ⟨hx, hb⟩) h'
      refine ⟨x :: ext, by simp [h1], by simpa using h2, fun k o' e hk' he => ?_, ?_⟩
      · have e1 : tr ++ x :: ext = tr ++ [x] ++ ext := by simp
        cases k with
        | zero =>
          simp at hk' he; subst hk'; subst he
          exact hf _ (by rw [← hlen, List.take_left])
        | succ k =>
          simp at hk' he
          have := h3 k o' e hk' he
          rw [e1, show j + (k + 1) = j + 1 + k from by omega]
          exact this
      · have e1 : tr ++ x :: ext = tr ++ [x] ++ ext := by simp
        rw [e1, h4, List.length_cons, show j + (rest.length + 1) = j + 1 + rest.length from by omega]
    have wanted : ∀ (pg' : Option Nat), (o.guard = none ∨ ∃ b t, o.guard = some (b, t) ∧ ∃ s x, dstOf all b = some s ∧ evM all (ancs all) st.slots tr j (.tmp s) = .bool x ∧ (x == t) = true) →
        ((aop c Γ st.res (lenR st.res) (evA (finSlots (all.take j) tr st.slots)) o.op).bind fun y => match y.2 with
          | [] => aregionQ c Γ st.res (lenR st.res) all rest pg' (setT (finSlots (all.take j) tr st.slots) o.dst y.1)
          | _ => .leaf none).Out (some sl') →
        ∃ ext, ext.length = (o :: rest).length ∧ (∀ e ∈ tr ++ ext, e.upd = [] ∧ e.base = lenR st.res) ∧ (∀ (k : Nat) (o' : Oper) (e : Ent El), (o :: rest)[k]? = some o' → ext[k]? = some e → Fact c Γ all st (tr ++ ext) (j + k) o' e) ∧
          sl' = finSlots (all.take (j + (o :: rest).length)) (tr ++ ext) st.slots := by
      intro pg' hg h'
      rw [Tree.out_bind] at h'
      obtain ⟨⟨v, u⟩, h1, h2⟩ := h'
      cases u with
      | nil =>
        refine step ⟨v, [], lenR st.res⟩ pg' rfl rfl (fun tr'' ht => ⟨.inr ?_⟩) h2
        rw [ht]
        refine ⟨hg, ?_, rfl⟩
        rw [resF_quiet hquiet]
        rw [aop_congr (fun x hx => hsame x ((okS_at hk hj).opnds x hx))] at h1
        exact h1
      | cons _ _ => simp only [Tree.Out] at h2; cases h2
    simp only [aregionQ] at ho
    split at ho
    · rename_i hg
      exact wanted _ (.inl hg) ho
    · rename_i g want hg
      rw [shIf_eq] at ho
      split at ho
      · rename_i t ht
        split at ho
        · rename_i b hb
          have hev : evM all (ancs all) st.slots tr j (.tmp t) = .bool b := by
            rw [← hsame _ ((okS_at hk hj).guard g want hg t ht)]; exact hb
          simp only [Tree.Out] at ho
          rcases ho with ⟨hbw, ho⟩ | ⟨hbw, ho⟩
          · have hq' : b = want := by simpa using hbw
            rw [setF_same (by rw [hb, hq'])] at ho
            exact wanted _ (.inr ⟨g, want, hg, t, b, ht, hev, hbw⟩) ho
          · have hq' : b = !want := by cases b <;> cases want <;> simp_all
            rw [setF_same (by rw [hb, hq'])] at ho
            refine step ⟨.top, [], lenR st.res⟩ _ rfl rfl (fun tr'' h => ⟨.inl ?_⟩) ho
            rw [h]
            exact ⟨g, want, hg, ⟨t, b, ht, hev, hbw⟩, rfl, rfl⟩
        · exact ho.elim
      · exact ho.elim

theorem not_dom_nil {r : Nat} : ¬ Dom ([] : List (Nat × Res El)) r := by
  rintro ⟨x, hx⟩; simp at hx

theorem aregionQ_trOk (hk : okS all st.slots.length = true) {sl' : List (AVal El)} (ho : (aregionQ c Γ st.res (lenR st.res) all all none st.slots).Out (some sl')) :
    ∃ tr, TrOk c Γ all st tr ∧ (⟨finSlots all tr st.slots, finRes tr st.res⟩ : St El) = ⟨sl', st.res⟩ := by
  obtain ⟨tr, h1, h2, h3, h4⟩ := aregionQ_tr (j := 0) (l := all) (tr := []) hk (by simp) rfl (fun e he => by cases he) (by simpa [finSlots] using ho)
  simp only [List.nil_append] at h2 h3 h4
  have mem : ∀ {j : Nat} {e : Ent El}, tr[j]? = some e → e.upd = [] ∧ e.base = lenR st.res := fun h => h2 _ (List.mem_of_getElem? h)
  refine ⟨tr, ⟨h1, fun j o e ho he => by simpa using h3 j o e ho he, fun j e he => Nat.le_of_eq (mem he).2.symm, fun j j' e e' he he' _ r hr => ?_, fun j o ho d hd hb => (okS_at hk ho).back d hd hb, fun j o e ho he r hr => ?_, fun i j o p ho hp hij d hd => okS_dst hk i j o p ho hp hij d hd,
    fun j o ho d hd => (okS_at hk ho).room d hd, fun i j p q e hp hq he hij r hr => ?_⟩, ?_⟩
  · rw [(mem he).1] at hr; exact absurd hr not_dom_nil
  · rw [(mem he).1] at hr; exact absurd hr not_dom_nil
  · rw [(mem he).1] at hr; exact absurd hr not_dom_nil
  · rw [finRes_quiet (fun e he => (h2 e he).1), h4]
    simp
end quick

/-! The same runs, the slots that were written laid over the others. -/
section over
def look : List (Nat × AVal El) → List (AVal El) → Nat → AVal El
  | [], sl, t => nth sl t
  | (d, v) :: r, sl, t => match Nat.beq d t with
    | true => v
    | false => look r sl t
def flush : List (Nat × AVal El) → List (AVal El) → List (AVal El)
  | [], sl => sl
  | (d, v) :: r, sl => setF (flush r sl) d v
def insA (d : Nat) (v : AVal El) : List (Nat × AVal El) → List (Nat × AVal El)
  | [] => [(d, v)]
  | (e, u) :: r => match Nat.blt d e with
    | true => (d, v) :: (e, u) :: r
    | false => match Nat.beq d e with
      | true => (e, u) :: r
      | false => (e, u) :: insA d v r
def sortA : List (Nat × AVal El) → List (Nat × AVal El) → List (Nat × AVal El)
  | [], acc => acc
  | (d, v) :: r, acc => sortA r (insA d v acc)
def putA : List (AVal El) → List (Nat × AVal El) → Nat → List (AVal El)
  | [], _, _ => []
  | a :: sl, acc, i => match acc with
    | [] => a :: sl
    | (d, v) :: r => match Nat.beq d i with
      | true => v :: putA sl r (i + 1)
      | false => a :: putA sl ((d, v) :: r) (i + 1)
def flushF (ov : List (Nat × AVal El)) (sl : List (AVal El)) : List (AVal El) := putA sl (sortA ov []) 0

def evO (ov : List (Nat × AVal El)) (sl : List (AVal El)) : Operand → AVal El
  | .tmp t => look ov sl t
  | .const v => absV v
  | .func f => .fn f []
  | .global _ => .top
def addO (dst : Option Tmp) (v : AVal El) (ov : List (Nat × AVal El)) : List (Nat × AVal El) := match dst with
  | some d => (d, v) :: ov
  | none => ov
def knows : Option (Nat × Nat × Bool) → Nat → Option Bool
  | some (g, _, q), g' => match Nat.beq g g' with
    | true => some q
    | false => none
  | none, _ => none
def forget : Option (Nat × Nat × Bool) → Option Tmp → Option (Nat × Nat × Bool)
  | some (g, t, q), some d => match Nat.beq d t with
    | true => none
    | false => some (g, t, q)
  | k, _ => k
def roomy (n : Nat) : List Oper → Bool
  | [] => true
  | o :: os => (match o.dst with | none => true | some d => Nat.ble (d + 1) n) && roomy n os
def quietU : Bool → List (Nat × Res El) → Bool
  | true, _ :: _ => false
  | _, _ => true

/-- What stands where an operation was passed over. -/
def skipV (strict : Bool) : AVal El := match strict with
  | true => .top
  | false => .tup []
/-- Operations in the text's order. None: an operation did more than read, and that was barred. -/
def arun (c : Cx El) (Γ : FuncId → Option (GSpec El)) (strict : Bool) (all : List Oper) (sl : List (AVal El)) : List Oper → Option (Nat × Nat × Bool) → List (Nat × AVal El) → List (Res El) → Tree (Option (St El))
  | [], _, ov, R => .leaf (some ⟨flushF ov sl, R⟩)
  | o :: rest, kn, ov, R => match o.guard with
    | none => (aop c Γ R (lenR R) (evO ov sl) o.op).bind fun y => match quietU strict y.2 with
      | true => arun c Γ strict all sl rest (forget kn o.dst) (addO o.dst y.1 ov) (updR R y.2)
      | false => .leaf none
    | some (g, want) => match knows kn g with
      | some q => match q == want with
        | true => (aop c Γ R (lenR R) (evO ov sl) o.op).bind fun y => match quietU strict y.2 with
          | true => arun c Γ strict all sl rest (forget kn o.dst) (addO o.dst y.1 ov) (updR R y.2)
          | false => .leaf none
        | false => arun c Γ strict all sl rest (forget kn o.dst) (addO o.dst (skipV strict) ov) R
      | none => match dstOf all g with
        | some t => match look ov sl t with
          | .bool b => .node (b == want)
              ((aop c Γ R (lenR R) (evO ((t, .bool want) :: ov) sl) o.op).bind fun y => match quietU strict y.2 with
                | true => arun c Γ strict all sl rest (forget (some (g, t, want)) o.dst) (addO o.dst y.1 ((t, .bool want) :: ov)) (updR R y.2)
                | false => .leaf none)
              (arun c Γ strict all sl rest (forget (some (g, t, !want)) o.dst) (addO o.dst (skipV strict) ((t, .bool (!want)) :: ov)) R)
          | .tup l => match l with
            | [] => match strict with
              | false => arun c Γ strict all sl rest (forget kn o.dst) (addO o.dst (skipV strict) ov) R
              | true => .fail
            | _ => .fail
          | _ => .fail
        | none => .fail

theorem roomy_mem {n : Nat} {l : List Oper} (h : roomy n l = true) : ∀ o ∈ l, ∀ d, o.dst = some d → d < n := by
  induction l with
  | nil => intro o ho; cases ho
  | cons p os ih =>
    simp only [roomy, Bool.and_eq_true] at h
    intro o ho d hd
    rcases List.mem_cons.1 ho with rfl | ho
    · rw [hd] at h; exact Nat.le_of_ble_eq_true h.1
    · exact ih h.2 o ho d hd
theorem dstOf_mem {all : List Oper} {g : Nat} {t : Tmp} (h : dstOf all g = some t) : ∃ o ∈ all, o.dst = some t := by
  induction all generalizing g with
  | nil => cases h
  | cons o os ih =>
    cases g with
    | zero => exact ⟨o, by simp, h⟩
    | succ g => obtain ⟨p, h1, h2⟩ := ih h; exact ⟨p, by simp [h1], h2⟩

theorem length_flush (ov : List (Nat × AVal El)) (sl : List (AVal El)) : (flush ov sl).length = sl.length := by
  induction ov with
  | nil => rfl
  | cons p r ih => obtain ⟨d, v⟩ := p; simp [flush, setF_eq, ih]
theorem look_flush {ov : List (Nat × AVal El)} {sl : List (AVal El)} (h : ∀ p ∈ ov, p.1 < sl.length) (t : Nat) : nth (flush ov sl) t = look ov sl t := by
  induction ov with
  | nil => rfl
  | cons p r ih =>
    obtain ⟨d, v⟩ := p
    simp only [flush, look]
    have := nth_setT (flush r sl) (some d) v t
    simp only [setT] at this
    rw [this]
    cases hb : Nat.beq d t with
    | true =>
      have := Nat.eq_of_beq_eq_true hb
      subst this
      rw [if_pos ⟨rfl, by rw [length_flush]; exact h (d, v) (by simp)⟩]
    | false =>
      have : d ≠ t := by intro h; subst h; rw [Nat.beq_refl] at hb; cases hb
      rw [if_neg (fun h => this (by simpa using h.1))]
      exact ih (fun p hp => h p (by simp [hp]))
theorem evO_eq {ov : List (Nat × AVal El)} {sl : List (AVal El)} (h : ∀ p ∈ ov, p.1 < sl.length) : evO ov sl = evA (flush ov sl) := by
  funext x
  cases x with
  | tmp t => exact (look_flush h t).symm
  | _ => rfl
theorem flush_addO (dst : Option Tmp) (v : AVal El) (ov : List (Nat × AVal El)) (sl : List (AVal El)) : flush (addO dst v ov) sl = setT (flush ov sl) dst v := by
  cases dst <;> rfl
theorem addO_room {dst : Option Tmp} {v : AVal El} {ov : List (Nat × AVal El)} {n : Nat} (h : ∀ p ∈ ov, p.1 < n) (hd : ∀ d, dst = some d → d < n) : ∀ p ∈ addO dst v ov, p.1 < n := by
  cases dst with
  | none => exact h
  | some d =>
    intro p hp
    rcases List.mem_cons.1 hp with rfl | hp
    · exact hd d rfl
    · exact h p hp

/-! The overlay laid into the slots at one go. -/
def lookF : List (Nat × AVal El) → (Nat → AVal El) → Nat → AVal El
  | [], fb, t => fb t
  | (d, v) :: r, fb, t => if d = t then v else lookF r fb t
theorem look_lookF (ov : List (Nat × AVal El)) (sl : List (AVal El)) (t : Nat) : look ov sl t = lookF ov (nth sl) t := by
  induction ov with
  | nil => rfl
  | cons p r ih =>
    obtain ⟨d, v⟩ := p
    simp only [look, lookF]
    cases hb : Nat.beq d t with
    | true => rw [if_pos (Nat.eq_of_beq_eq_true hb)]
    | false => rw [if_neg (by intro h; subst h; rw [Nat.beq_refl] at hb; cases hb)]; exact ih
theorem lookF_congr {ov : List (Nat × AVal El)} {f g : Nat → AVal El} {t : Nat} (h : f t = g t) : lookF ov f t = lookF ov g t := by
  induction ov with
  | nil => exact h
  | cons p r ih => obtain ⟨d, v⟩ := p; simp only [lookF]; rw [ih]
theorem lookF_not {ov : List (Nat × AVal El)} {f : Nat → AVal El} {t : Nat} (h : ∀ p ∈ ov, p.1 ≠ t) : lookF ov f t = f t := by
  induction ov with
  | nil => rfl
  | cons p r ih =>
    obtain ⟨d, v⟩ := p
    simp only [lookF]
    rw [if_neg (h (d, v) (by simp)), ih (fun p hp => h p (by simp [hp]))]
def Asc (l : List (Nat × AVal El)) : Prop := l.Pairwise fun p q => p.1 < q.1
theorem insA_spec {d : Nat} {v : AVal El} {acc : List (Nat × AVal El)} (h : Asc acc) : Asc (insA d v acc) ∧ (∀ p ∈ insA d v acc, p = (d, v) ∨ p ∈ acc) ∧ ∀ (fb : Nat → AVal El) t, lookF (insA d v acc) fb t = lookF acc (lookF [(d, v)] fb) t := by
  induction acc with
  | nil => exact ⟨by simp [Asc, insA], fun p hp => by simpa [insA] using hp, fun fb t => rfl⟩
  | cons q r ih =>
    obtain ⟨e, u⟩ := q
    obtain ⟨h1, h2⟩ := List.pairwise_cons.1 h
    obtain ⟨i1, i2, i3⟩ := ih h2
    simp only [insA]
    cases hlt : Nat.blt d e with
    | true =>
      have hde : d < e := Nat.le_of_ble_eq_true hlt
      simp only
      refine ⟨List.pairwise_cons.2 ⟨fun p hp => ?_, h⟩, fun p hp => List.mem_cons.1 hp, fun fb t => ?_⟩
      · rcases List.mem_cons.1 hp with rfl | hp
        · exact hde
        · exact Nat.lt_trans hde (h1 p hp)
      · by_cases ht : d = t
        · subst ht
          have hno : ∀ p ∈ (e, u) :: r, p.1 ≠ d := by
            intro p hp hpe
            rcases List.mem_cons.1 hp with rfl | hp
            · simp only at hpe; omega
            · have := h1 p hp; simp only at this; omega
          rw [lookF_not hno]
          simp [lookF]
        · have e1 : lookF [(d, v)] fb t = fb t := by simp [lookF, ht]
          rw [show lookF ((d, v) :: (e, u) :: r) fb t = lookF ((e, u) :: r) fb t from by rw [lookF, if_neg ht]]
          exact (lookF_congr e1).symm
    | false =>
      have hde : e ≤ d := by
        rcases Nat.lt_or_ge d e with h' | h'
        · have := Nat.ble_eq_true_of_le h'
          unfold Nat.blt at hlt
          rw [this] at hlt; cases hlt
        · exact h'
      cases hb : Nat.beq d e with
      | true =>
        have := Nat.eq_of_beq_eq_true hb
        subst this
        simp only
        refine ⟨h, fun p hp => .inr hp, fun fb t => ?_⟩
        simp only [lookF]
        by_cases ht : d = t
        · simp [ht]
        · rw [if_neg ht, if_neg ht]
          exact (lookF_congr (by simp [ht])).symm
      | false =>
        have hne : d ≠ e := by intro h; subst h; rw [Nat.beq_refl] at hb; cases hb
        simp only
        refine ⟨List.pairwise_cons.2 ⟨fun p hp => ?_, i1⟩, fun p hp => ?_, fun fb t => ?_⟩
        · rcases i2 p hp with rfl | hp
          · simp only; omega
          · exact h1 p hp
        · rcases List.mem_cons.1 hp with rfl | hp
          · exact .inr (by simp)
          · exact (i2 p hp).imp id (fun h => by simp [h])
        · rw [lookF, i3 fb t]; rfl
theorem sortA_spec {ov acc : List (Nat × AVal El)} (h : Asc acc) : Asc (sortA ov acc) ∧ ∀ (fb : Nat → AVal El) t, lookF (sortA ov acc) fb t = lookF acc (lookF ov fb) t := by
  induction ov generalizing acc with
  | nil => exact ⟨h, fun fb t => rfl⟩
  | cons p r ih =>
    obtain ⟨d, v⟩ := p
    obtain ⟨h1, h2, h3⟩ := insA_spec (d := d) (v := v) h
    obtain ⟨i1, i2⟩ := ih h1
    refine ⟨i1, fun fb t => ?_⟩
    simp only [sortA]
    rw [i2, h3]
    exact lookF_congr (by simp [lookF])
theorem putA_spec {sl : List (AVal El)} {acc : List (Nat × AVal El)} {i : Nat} (h : Asc acc) (hi : ∀ p ∈ acc, i ≤ p.1) : (putA sl acc i).length = sl.length ∧ ∀ k, k < sl.length → nth (putA sl acc i) k = lookF acc (fun t => nth sl (t - i)) (k + i) := by
  induction sl generalizing acc i with
  | nil => exact ⟨rfl, fun k hk => absurd hk (by simp)⟩
  | cons a sl ih =>
    cases acc with
    | nil => exact ⟨rfl, fun k hk => by simp [putA, lookF]⟩
    | cons q r =>
      obtain ⟨d, v⟩ := q
      obtain ⟨h1, h2⟩ := List.pairwise_cons.1 h
      have hdi := hi (d, v) (by simp)
      simp only [putA]
      cases hb : Nat.beq d i with
      | true =>
        have := Nat.eq_of_beq_eq_true hb
        subst this
        simp only
        obtain ⟨j1, j2⟩ := ih (acc := r) (i := d + 1) h2 (fun p hp => h1 p hp)
        refine ⟨by simp [j1], fun k hk => ?_⟩
        cases k with
        | zero => simp [nth, lookF]
        | succ k =>
          simp only [nth, lookF]
          rw [if_neg (by omega), j2 k (by simpa using hk), show k + 1 + d = k + (d + 1) from by omega]
          refine lookF_congr ?_
          rw [show k + (d + 1) - (d + 1) = k from by omega, show k + (d + 1) - d = k + 1 from by omega]
          rfl
      | false =>
        have hne : d ≠ i := by intro h; subst h; rw [Nat.beq_refl] at hb; cases hb
        simp only at hdi ⊢
        obtain ⟨j1, j2⟩ := ih (acc := (d, v) :: r) (i := i + 1) h (fun p hp => by
          rcases List.mem_cons.1 hp with rfl | hp
          · simp only; omega
          · have := h1 p hp; simp only at this; omega)
        refine ⟨by simp [j1], fun k hk => ?_⟩
        cases k with
        | zero =>
          simp only [nth, Nat.zero_add]
          rw [lookF_not (fun p hp => by
            rcases List.mem_cons.1 hp with rfl | hp
            · exact hne
            · have := h1 p hp; simp only at this; omega)]
          simp [nth]
        | succ k =>
          simp only [nth]
          rw [j2 k (by simpa using hk), show k + 1 + i = k + (i + 1) from by omega]
          refine lookF_congr ?_
          rw [show k + (i + 1) - (i + 1) = k from by omega, show k + (i + 1) - i = k + 1 from by omega]
          rfl
theorem flushF_eq {ov : List (Nat × AVal El)} {sl : List (AVal El)} (h : ∀ p ∈ ov, p.1 < sl.length) : flushF ov sl = flush ov sl := by
  obtain ⟨s1, s2⟩ := sortA_spec (ov := ov) (acc := []) (by simp [Asc])
  obtain ⟨p1, p2⟩ := putA_spec (sl := sl) (i := 0) s1 (fun p _ => Nat.zero_le _)
  refine List.ext_getElem (by rw [length_flush]; exact p1) (fun k h1 h2 => ?_)
  have hk : k < sl.length := by rwa [length_flush] at h2
  have e1 := p2 k hk
  have e2 := look_flush h k
  rw [look_lookF] at e2
  rw [s2] at e1
  simp only [Nat.add_zero, Nat.sub_zero, lookF] at e1
  have e3 : nth (putA sl (sortA ov []) 0) k = nth (flush ov sl) k := by rw [e1, e2]
  rw [nth_eq, nth_eq, List.getD_eq_getElem?_getD, List.getD_eq_getElem?_getD, List.getElem?_eq_getElem h2, List.getElem?_eq_getElem (by rw [p1]; exact hk)] at e3
  exact e3

/-- What is known of a guard. -/
def KnOk (all : List Oper) (sl : List (AVal El)) (kn : Option (Nat × Nat × Bool)) (ov : List (Nat × AVal El)) : Prop := ∀ g t q, kn = some (g, t, q) → dstOf all g = some t ∧ look ov sl t = .bool q
theorem KnOk.forget {all : List Oper} {sl : List (AVal El)} {kn : Option (Nat × Nat × Bool)} {ov : List (Nat × AVal El)} (h : KnOk all sl kn ov) (dst : Option Tmp) (v : AVal El) : KnOk all sl (forget kn dst) (addO dst v ov) := by
  intro g t q hk
  cases dst with
  | none =>
    cases kn with
    | none => cases hk
    | some p => obtain ⟨g', t', q'⟩ := p; exact h g t q hk
  | some d =>
    cases kn with
    | none => cases hk
    | some p =>
      obtain ⟨g', t', q'⟩ := p
      simp only [Ax.forget] at hk
      split at hk
      · cases hk
      · rename_i hb
        obtain ⟨h1, h2⟩ := h g t q hk
        cases hk
        refine ⟨h1, ?_⟩
        simp only [addO, look, hb]
        exact h2
theorem knows_some {kn : Option (Nat × Nat × Bool)} {g : Nat} {q : Bool} (h : knows kn g = some q) : ∃ t, kn = some (g, t, q) := by
  cases kn with
  | none => cases h
  | some p =>
    obtain ⟨g', t', q'⟩ := p
    simp only [knows] at h
    split at h
    · rename_i hb
      have := Nat.eq_of_beq_eq_true hb
      subst this
      cases h
      exact ⟨t', rfl⟩
    · cases h
theorem KnOk.told {all : List Oper} {sl : List (AVal El)} {g t : Nat} {q : Bool} {ov : List (Nat × AVal El)} (h : dstOf all g = some t) : KnOk all sl (some (g, t, q)) ((t, .bool q) :: ov) := by
  intro g' t' q' hk
  cases hk
  exact ⟨h, by simp [look]⟩

variable {c : Cx El} {Γ : FuncId → Option (GSpec El)} {all : List Oper} {sl : List (AVal El)}

theorem arun_list {l : List Oper} {kn : Option (Nat × Nat × Bool)} {pg : Option Nat} {ov : List (Nat × AVal El)} {R : List (Res El)} {y : Option (St El)} (hall : ∀ g t, dstOf all g = some t → t < sl.length) (hl : ∀ o ∈ l, ∀ d, o.dst = some d → d < sl.length)
    (hov : ∀ p ∈ ov, p.1 < sl.length) (hkn : KnOk all sl kn ov) (ho : (arun c Γ false all sl l kn ov R).Out y) : ∃ st', y = some st' ∧ (aregion c Γ all l pg ⟨flush ov sl, R⟩).Out st' := by
  induction l generalizing kn pg ov R with
  | nil =>
    simp only [arun, Tree.Out, flushF_eq hov] at ho
    exact ⟨_, ho.symm, rfl⟩
  | cons o rest ih =>
    have hd := hl o (by simp)
    have hr : ∀ o ∈ rest, ∀ d, o.dst = some d → d < sl.length := fun o ho => hl o (by simp [ho])
    have run : ∀ (kn : Option (Nat × Nat × Bool)) (ov : List (Nat × AVal El)) (pg' : Option Nat), (∀ p ∈ ov, p.1 < sl.length) → KnOk all sl kn ov →
        ((aop c Γ R (lenR R) (evO ov sl) o.op).bind fun y => match quietU false y.2 with
          | true => arun c Γ false all sl rest (forget kn o.dst) (addO o.dst y.1 ov) (updR R y.2)
          | false => .leaf none).Out y →
        ∃ st', y = some st' ∧ ((aop c Γ R (lenR R) (evA (flush ov sl)) o.op).bind fun y => aregion c Γ all rest pg' ⟨setT (flush ov sl) o.dst y.1, updR R y.2⟩).Out st' := by
      intro kn ov pg' hov hkn h
      rw [Tree.out_bind] at h
      obtain ⟨z, h1, h2⟩ := h
      have hq : quietU false z.2 = true := by cases z.2 <;> rfl
      rw [hq] at h2
      simp only at h2
      obtain ⟨st', e, h3⟩ := ih (pg := pg') hr (addO_room hov hd) (hkn.forget o.dst z.1) h2
      refine ⟨st', e, ?_⟩
      rw [Tree.out_bind]
      rw [flush_addO] at h3
      rw [evO_eq hov] at h1
      exact ⟨z, h1, h3⟩
    simp only [arun] at ho
    simp only [aregion]
    cases hg : o.guard with
    | none =>
      rw [hg] at ho
      exact run kn ov none hov hkn ho
    | some p =>
      obtain ⟨g, want⟩ := p
      rw [hg] at ho
      simp only at ho ⊢
      rw [shSt_eq]
      cases hk : knows kn g with
      | some q =>
        rw [hk] at ho
        simp only at ho
        obtain ⟨t, hkt⟩ := knows_some hk
        obtain ⟨k1, k2⟩ := hkn g t q hkt
        have hn : nth (flush ov sl) t = .bool q := by rw [look_flush hov]; exact k2
        simp only [k1, hn]
        cases hqw : q == want with
        | true =>
          rw [hqw] at ho
          simp only at ho
          have hqw' : q = want := by simpa using hqw
          obtain ⟨st', e, h3⟩ := run kn ov (some g) hov hkn ho
          refine ⟨st', e, .inl ⟨rfl, ?_⟩⟩
          rw [setF_same (by rw [hn, hqw'])]
          exact h3
        | false =>
          rw [hqw] at ho
          simp only at ho
          have hqw' : q = !want := by cases q <;> cases want <;> simp_all
          obtain ⟨st', e, h3⟩ := ih (pg := some g) hr (addO_room hov hd) (hkn.forget o.dst (.tup [])) ho
          refine ⟨st', e, .inr ⟨rfl, ?_⟩⟩
          rw [setF_same (by rw [hn, hqw'])]
          rw [flush_addO] at h3
          exact h3
      | none =>
        rw [hk] at ho
        simp only at ho
        cases ht : dstOf all g with
        | none => rw [ht] at ho; exact ho.elim
        | some t =>
          rw [ht] at ho
          simp only at ho
          have hov' : ∀ v : AVal El, ∀ p ∈ (t, v) :: ov, p.1 < sl.length := by
            intro v p hp
            rcases List.mem_cons.1 hp with rfl | hp
            · exact hall g t ht
            · exact hov p hp
          split at ho
          · rename_i b hb
            have hn : nth (flush ov sl) t = .bool b := by rw [look_flush hov]; exact hb
            simp only [hn]
            simp only [Tree.Out] at ho
            rcases ho with ⟨hbw, ho⟩ | ⟨hbw, ho⟩
            · obtain ⟨st', e, h3⟩ := run _ _ (some g) (hov' _) (KnOk.told ht) ho
              exact ⟨st', e, .inl ⟨hbw, h3⟩⟩
            · obtain ⟨st', e, h3⟩ := ih (pg := some g) hr (addO_room (hov' _) hd) ((KnOk.told ht).forget o.dst (.tup [])) ho
              rw [flush_addO] at h3
              exact ⟨st', e, .inr ⟨hbw, h3⟩⟩
          · split at ho
            · rename_i hb
              have hn : nth (flush ov sl) t = .tup [] := by rw [look_flush hov]; exact hb
              simp only [hn]
              obtain ⟨st', e, h3⟩ := ih (pg := some g) hr (addO_room hov hd) (hkn.forget o.dst (.tup [])) ho
              rw [flush_addO] at h3
              exact ⟨st', e, h3⟩
            · exact ho.elim
          · exact ho.elim

theorem arun_quiet {l : List Oper} {kn : Option (Nat × Nat × Bool)} {pg : Option Nat} {ov : List (Nat × AVal El)} {R : List (Res El)} {st' : St El} (hall : ∀ g t, dstOf all g = some t → t < sl.length) (hl : ∀ o ∈ l, ∀ d, o.dst = some d → d < sl.length)
    (hov : ∀ p ∈ ov, p.1 < sl.length) (hkn : KnOk all sl kn ov) (ho : (arun c Γ true all sl l kn ov R).Out (some st')) : st'.res = R ∧ (aregionQ c Γ R (lenR R) all l pg (flush ov sl)).Out (some st'.slots) := by
  induction l generalizing kn pg ov with
  | nil =>
    simp only [arun, Tree.Out, Option.some.injEq, flushF_eq hov] at ho
    subst ho
    exact ⟨rfl, rfl⟩
  | cons o rest ih =>
    have hd := hl o (by simp)
    have hr : ∀ o ∈ rest, ∀ d, o.dst = some d → d < sl.length := fun o ho => hl o (by simp [ho])
    have run : ∀ (kn : Option (Nat × Nat × Bool)) (ov : List (Nat × AVal El)) (pg' : Option Nat), (∀ p ∈ ov, p.1 < sl.length) → KnOk all sl kn ov →
        ((aop c Γ R (lenR R) (evO ov sl) o.op).bind fun y => match quietU true y.2 with
          | true => arun c Γ true all sl rest (forget kn o.dst) (addO o.dst y.1 ov) (updR R y.2)
          | false => .leaf none).Out (some st') →
        st'.res = R ∧ ((aop c Γ R (lenR R) (evA (flush ov sl)) o.op).bind fun y => match y.2 with
          | [] => aregionQ c Γ R (lenR R) all rest pg' (setT (flush ov sl) o.dst y.1)
          | _ => .leaf none).Out (some st'.slots) := by
      intro kn ov pg' hov hkn h
      rw [Tree.out_bind] at h
      obtain ⟨⟨v, u⟩, h1, h2⟩ := h
      cases u with
      | cons x xs => simp only [quietU, Tree.Out] at h2; cases h2
      | nil =>
        simp only [quietU, updR] at h2
        obtain ⟨e, h3⟩ := ih (pg := pg') hr (addO_room hov hd) (hkn.forget o.dst v) h2
        refine ⟨e, ?_⟩
        rw [Tree.out_bind]
        rw [flush_addO] at h3
        rw [evO_eq hov] at h1
        exact ⟨(v, []), h1, h3⟩
    simp only [arun] at ho
    simp only [aregionQ]
    cases hg : o.guard with
    | none =>
      rw [hg] at ho
      exact run kn ov none hov hkn ho
    | some p =>
      obtain ⟨g, want⟩ := p
      rw [hg] at ho
      simp only at ho ⊢
      rw [shIf_eq]
      cases hk : knows kn g with
      | some q =>
        rw [hk] at ho
        simp only at ho
        obtain ⟨t, hkt⟩ := knows_some hk
        obtain ⟨k1, k2⟩ := hkn g t q hkt
        have hn : nth (flush ov sl) t = .bool q := by rw [look_flush hov]; exact k2
        simp only [k1, hn]
        cases hqw : q == want with
        | true =>
          rw [hqw] at ho
          simp only at ho
          have hqw' : q = want := by simpa using hqw
          obtain ⟨e, h3⟩ := run kn ov (some g) hov hkn ho
          refine ⟨e, .inl ⟨rfl, ?_⟩⟩
          rw [setF_same (by rw [hn, hqw'])]
          exact h3
        | false =>
          rw [hqw] at ho
          simp only at ho
          have hqw' : q = !want := by cases q <;> cases want <;> simp_all
          obtain ⟨e, h3⟩ := ih (pg := some g) hr (addO_room hov hd) (hkn.forget o.dst .top) ho
          refine ⟨e, .inr ⟨rfl, ?_⟩⟩
          rw [setF_same (by rw [hn, hqw'])]
          rw [flush_addO] at h3
          exact h3
      | none =>
        rw [hk] at ho
        simp only at ho
        cases ht : dstOf all g with
        | none => rw [ht] at ho; exact ho.elim
        | some t =>
          rw [ht] at ho
          simp only at ho
          have hov' : ∀ v : AVal El, ∀ p ∈ (t, v) :: ov, p.1 < sl.length := by
            intro v p hp
            rcases List.mem_cons.1 hp with rfl | hp
            · exact hall g t ht
            · exact hov p hp
          split at ho
          · rename_i b hb
            have hn : nth (flush ov sl) t = .bool b := by rw [look_flush hov]; exact hb
            simp only [hn]
            simp only [Tree.Out] at ho
            rcases ho with ⟨hbw, ho⟩ | ⟨hbw, ho⟩
            · obtain ⟨e, h3⟩ := run _ _ (some g) (hov' _) (KnOk.told ht) ho
              exact ⟨e, .inl ⟨hbw, h3⟩⟩
            · obtain ⟨e, h3⟩ := ih (pg := some g) hr (addO_room (hov' _) hd) ((KnOk.told ht).forget o.dst .top) ho
              rw [flush_addO] at h3
              exact ⟨e, .inr ⟨hbw, h3⟩⟩
          · split at ho <;> exact ho.elim
          · exact ho.elim

/-- A region in the text's order. -/
def aregionL (c : Cx El) (Γ : FuncId → Option (GSpec El)) (all : List Oper) (st : St El) : Tree (St El) := match roomy (lenA st.slots) all with
  | true => (arun c Γ false all st.slots all none [] st.res).bind fun y => match y with
    | some st' => .leaf st'
    | none => .fail
  | false => aregion c Γ all all none st

theorem aregionL_list {st st' : St El} (ho : (aregionL c Γ all st).Out st') : (aregion c Γ all all none st).Out st' := by
  unfold aregionL at ho
  split at ho
  · rename_i hk
    rw [lenA_eq] at hk
    rw [Tree.out_bind] at ho
    obtain ⟨y, h1, h2⟩ := ho
    obtain ⟨st'', e, h3⟩ := arun_list (pg := none) (fun g t ht => by
      obtain ⟨o, ho, hd⟩ := dstOf_mem ht
      exact roomy_mem hk o ho t hd) (roomy_mem hk) (fun p hp => by cases hp) (fun g t q hk => by cases hk) h1
    subst e
    simp only [Tree.Out] at h2
    subst h2
    exact h3
  · exact ho
end over

section
variable {c : Cx El} {Γ : FuncId → Option (GSpec El)} {ops : Array Oper} {st : St El} {tr : List (Ent El)}

theorem aregionT_ok (hΓ : ∀ f g, Γ f = some g → GOk c f g) {id : Nat} {Q : Exit → Act → World → Prop} {I : Nat → Prop} {E : Env} {a : Act} {w : World} (T : TrOk c Γ ops.toList st tr)
    (h : HoldS c I E st a w) (hQ : ∀ a' w' I' E', Ext I E st.res w I' E' (finRes tr st.res) w' → HoldS c I' E' ⟨finSlots ops.toList tr st.slots, finRes tr st.res⟩ a' w' → Keeps ops.toList a a' → Names E st E' (⟨finSlots ops.toList tr st.slots, finRes tr st.res⟩ : St El) → Q .normal a' w') : (Code.region id ops true).wp c.P Q a w := by
  refine wp_region_any c.mixed (wpAny_d hΓ T h.free hQ ops.size _ I E a w.drew (by simp) ?_ ?_)
  · exact Nat.le_trans (List.length_filter_le _ _) (by simp)
  · have hf := Fr.drew w
    have hno : (fun i => (Array.replicate ops.size false).getD i false) = fun _ => false := by
      funext i
      simp only [Array.getD_eq_getD_getElem?, Array.getElem?_replicate]
      split <;> rfl
    rw [hno]
    have hres : ∀ r, getR (resF (fun _ => false) tr 0 st.res) r = getR st.res r := fun r => resF_none (fun _ _ _ _ => rfl)
    have hslots : SlotsOk c I w.drew E st.slots a := Reps.mono h.slots (fun _ h => h) (fun _ _ => rfl) (Env.le_refl _)
    refine ⟨(h.hr.grow hf).congr hres, fun t => ?_, ?_, h.nodefer, ⟨fun _ h => h, Env.le_refl _, hf.weaken (fun _ h => h.elim), fun _ h => .inl h, ?_⟩, fun r hr => absurd rfl hr, ⟨rfl, fun _ _ => rfl⟩, fun i j hj => by cases hj⟩
    · have hslot : slotF ops.toList tr st.slots (fun _ => false) t = nth st.slots t := by
        unfold slotF
        split <;> simp
      rw [hslot]
      have := hslots.getD t undef
      simpa [Array.getD_eq_getD_getElem?, List.getD_eq_getElem?_getD] using this
    · exact (Reps.len h.slots).symm
    · rintro b ⟨r, e, g1, g2, g3⟩
      exact .inl ⟨r, e, by rwa [hres] at g1, g2, g3⟩

theorem aregionD_ok (hΓ : ∀ f g, Γ f = some g → GOk c f g) {id : Nat} {Q : Exit → Act → World → Prop} {st' : St El} {I : Nat → Prop} {E : Env} {a : Act} {w : World} (ho : (aregionD c Γ ops.toList st).Out st')
    (h : HoldS c I E st a w) (hQ : ∀ a' w' I' E', Ext I E st.res w I' E' st'.res w' → HoldS c I' E' st' a' w' → Keeps ops.toList a a' → Names E st E' st' → Q .normal a' w') : (Code.region id ops true).wp c.P Q a w := by
  unfold aregionD at ho
  rw [Tree.out_bind] at ho
  obtain ⟨tr, ht, ho⟩ := ho
  obtain ⟨soft, hk, hlens, ho⟩ : ∃ soft, okD soft st.res st.slots ops.toList (ancs ops.toList) tr = true ∧ (soft = true → lens st.res tr) ∧ (⟨finSlots ops.toList tr st.slots, finRes tr st.res⟩ : St El) = st' := by
    split at ho
    · rename_i hk
      exact ⟨false, hk, fun h => (by cases h), ho⟩
    · split at ho
      · rename_i hk
        exact ⟨true, hk, fun _ => ho.1, ho.2⟩
      · exact ho.elim
  · subst ho
    exact aregionT_ok hΓ (trOk_of ht hk hlens) h hQ

/-- A region that draws its order: by slots alone where it only reads. -/
def aregionE (c : Cx El) (Γ : FuncId → Option (GSpec El)) (all : List Oper) (st : St El) : Tree (St El) := match okS all (lenA st.slots) with
  | true => (arun c Γ true all st.slots all none [] st.res).bind fun y => match y with
    | some st' => .leaf ⟨st'.slots, st.res⟩
    | none => aregionD c Γ all st
  | false => aregionD c Γ all st

theorem aregionE_ok (hΓ : ∀ f g, Γ f = some g → GOk c f g) {id : Nat} {Q : Exit → Act → World → Prop} {st' : St El} {I : Nat → Prop} {E : Env} {a : Act} {w : World} (ho : (aregionE c Γ ops.toList st).Out st')
    (h : HoldS c I E st a w) (hQ : ∀ a' w' I' E', Ext I E st.res w I' E' st'.res w' → HoldS c I' E' st' a' w' → Keeps ops.toList a a' → Names E st E' st' → Q .normal a' w') : (Code.region id ops true).wp c.P Q a w := by
  unfold aregionE at ho
  split at ho
  · rename_i hk
    rw [lenA_eq] at hk
    rw [Tree.out_bind] at ho
    obtain ⟨y, h1, h2⟩ := ho
    cases y with
    | none => exact aregionD_ok hΓ h2 h hQ
    | some st1 =>
      simp only [Tree.Out] at h2; subst h2
      have hmem : ∀ o ∈ ops.toList, ∀ d, o.dst = some d → d < st.slots.length := fun o ho d hd => by
        obtain ⟨i, hi⟩ := List.getElem?_of_mem ho
        exact (okS_at hk hi).room d hd
      have h1 := (arun_quiet (pg := none) (fun g t ht => by
        obtain ⟨o, ho, hd⟩ := dstOf_mem ht
        exact hmem o ho t hd) hmem (fun p hp => by cases hp) (fun g t q hk => by cases hk) h1).2
      simp only [flush] at h1
      obtain ⟨tr, T, he⟩ := aregionQ_trOk hk h1
      refine aregionT_ok hΓ T h ?_
      have e1 : finRes tr st.res = st.res := congrArg St.res he
      rw [he, e1]
      exact hQ
  · exact aregionD_ok hΓ ho h hQ

end
end Go.Ax
