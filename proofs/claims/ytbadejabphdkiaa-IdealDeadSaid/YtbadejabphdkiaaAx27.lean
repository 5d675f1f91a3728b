/- A verified symbolic executor, part 27: a region that draws its order and lays the entries of a map, in whatever order they come. Over any program; the facts on its types are given with it. -/
import Derived.Test.YtbadejabphdkiaaAx14
set_option linter.unusedVariables false
set_option linter.unusedSimpArgs false
namespace Go.Ax
variable {El : TypeId → Type}

section defs
variable (c : Cx El) (Γ : FuncId → Option (GSpec El))
/-- Operations that change nothing but their own slot. -/
def litOp : Op → Bool
  | .move _ => true
  | .assign _ => true
  | .build _ _ => true
  | .load _ _ => true
  | .makeFunc _ _ _ => true
  | _ => false
def traceM (all : List Oper) (an : List Nat) (st : St El) : List Oper → Nat → List (Ent El) → Tree (List (Ent El))
  | [], _, tr => .leaf tr
  | o :: rest, j, tr => match o.guard with
    | some _ => .fail
    | none => match o.op with
      | .makeMap _ none => match j with
        | 0 => traceM all an st rest (j + 1) (tr ++ [⟨.mapr (lenR st.res), [], lenR st.res⟩])
        | _ + 1 => .fail
      | .insert _ _ _ _ => traceM all an st rest (j + 1) (tr ++ [⟨.top, [], lenR st.res⟩])
      | op => match litOp op with
        | true => (aop c Γ st.res (lenR st.res) (evM all an st.slots tr j) op).bind fun y => match y.2 with
          | [] => traceM all an st rest (j + 1) (tr ++ [⟨y.1, [], lenR st.res⟩])
          | _ => .fail
        | false => .fail
abbrev KV (El : TypeId → Type) := Nat × AVal El × AVal El
def insOf (all : List Oper) (an : List Nat) (slots : List (AVal El)) (tr : List (Ent El)) : List Oper → Nat → List (KV El)
  | [], _ => []
  | o :: rest, j => match o.op with
    | .insert _ _ k x => (j, evM all an slots (tr.take j) j k, evM all an slots (tr.take j) j x) :: insOf all an slots tr rest (j + 1)
    | _ => insOf all an slots tr rest (j + 1)
def differ (k k' : AVal El) : Bool := match eqKey k k' with
  | some b => !b
  | none => false
def apart1 (k : AVal El) : List (KV El) → Bool
  | [] => true
  | p :: l => differ k p.2.1 && differ p.2.1 k && apart1 k l
def apartM : List (KV El) → Bool
  | [] => true
  | p :: l => apart1 p.2.1 l && apartM l
def flatP : List (KV El) → List (AVal El)
  | [] => []
  | p :: l => p.2.1 :: p.2.2 :: flatP l
def isMapr (n : Nat) : AVal El → Bool
  | .mapr r => Nat.beq r n
  | _ => false
/-- What holds of the operations, looked at one by one. -/
def okM (t kt : TypeId) (st : St El) (all : List Oper) (an : List Nat) (tr : List (Ent El)) : Bool :=
  (List.range all.length).all fun j => match all[j]? with
    | some o =>
      (o.after.toList.all fun d => !Region.binds .any d || decide (d.on < j)) && (match o.dst with | some d => decide (d < lenA st.slots) | none => true) &&
      (match o.op with
        | .insert t' m k _ => Nat.beq t' t && isMapr (lenR st.res) (evM all an st.slots (tr.take j) j m) && shpK c kt (evM all an st.slots (tr.take j) j k)
        | _ => true) &&
      (List.range all.length).all fun i => i == j || match all[i]? with
        | some p => (match o.dst, p.dst with | some d, some d' => decide (d ≠ d') | _, _ => true)
        | none => true
    | none => false
def aregionM (all : List Oper) (st : St El) : Tree (St El) := match all with
  | o0 :: _ => match o0.op with
    | .makeMap t none => match c.P.underlying t with
      | some (.map kt et) => (traceM c Γ all (ancs all) st all 0 []).bind fun tr =>
          match okM c t kt st all (ancs all) tr && apartM (insOf all (ancs all) st.slots tr all 0) with
          | true => .leaf ⟨finSlots all tr st.slots, setR st.res (lenR st.res) (.mapC (flatP (insOf all (ancs all) st.slots tr all 0)))⟩
          | false => .fail
      | _ => .fail
    | _ => .fail
  | [] => .fail
end defs

section static
variable {c : Cx El} {Γ : FuncId → Option (GSpec El)} {st : St El} {tr : List (Ent El)} {I : Nat → Prop} {E : Env} {w : World}

/-- The operations' places. -/
structure StM (all : List Oper) (st : St El) (tr : List (Ent El)) : Prop where
  len : tr.length = all.length
  edges : ∀ (j : Nat) (o : Oper), all[j]? = some o → ∀ d ∈ o.after.toList, Region.binds .any d = true → d.on < j
  dst : ∀ (i j : Nat) (o p : Oper), all[j]? = some o → all[i]? = some p → i ≠ j → ∀ d, o.dst = some d → p.dst ≠ some d
  room : ∀ (j : Nat) (o : Oper), all[j]? = some o → ∀ d, o.dst = some d → d < st.slots.length
theorem StM.ancLt {all : List Oper} (S : StM all st tr) : ∀ (i k : Nat) (p : Oper), all[k]? = some p → (natAt (ancs all) k).testBit i = true → i < k := by
  intro i k p hk
  induction k using Nat.strongRecOn generalizing i p with
  | _ k ih =>
    intro hi
    obtain ⟨d, h1, h2, h3⟩ := (ancs_bit hk).1 hi
    have hd := S.edges k p hk d h1 h2
    rcases h3 with rfl | ⟨h4, h5⟩
    · exact hd
    · have hdl : d.on < all.length := by
        rcases Nat.lt_or_ge k all.length with h' | h'
        · omega
        · rw [List.getElem?_eq_none h'] at hk; cases hk
      have := ih d.on hd i all[d.on] (List.getElem?_eq_getElem hdl) h5
      omega
/-- What an operation finds. -/
theorem StM.ev {all : List Oper} (S : StM all st tr) {s : Nat → Bool} {a : Act} (hslots : ∀ t, Rep c.L I w E (slotF all tr st.slots s t) (a.tmps.getD t undef)) {j : Nat} {o : Oper} (hj : all[j]? = some o) (hns : s j = false)
    (hanc : ∀ i, (natAt (ancs all) j).testBit i = true → s i = true) (hclosed : ∀ i j, s j = true → (natAt (ancs all) j).testBit i = true → s i = true) : ∀ x, Rep c.L I w E (evM all (ancs all) st.slots (tr.take j) j x) (a.eval x) := by
  have hancLt : ∀ i, (natAt (ancs all) j).testBit i = true → i < j := fun i hi => S.ancLt i j o hj hi
  intro x
  cases x with
  | const v => exact absV_ok v
  | func f => exact .fn (caps := []) (vs := []) rfl (fun i c v hc => by simp at hc)
  | global g => exact .top
  | tmp t =>
    have hs := hslots t
    simp only [evM]
    unfold slotF at hs
    cases hw : writerOf all t 0 with
    | none => rw [hw] at hs; exact hs
    | some i =>
      rw [hw] at hs
      simp only
      simp only at hs
      split
      · rename_i hb
        have hsi := hanc i hb
        rw [if_pos hsi] at hs
        have hlt := hancLt i hb
        rw [entAt_eq, List.getElem?_take, if_pos hlt]
        exact hs
      · split
        · rename_i hb hor
          have hsi : s i = false := by
            rcases hor with rfl | hor
            · exact hns
            · cases hsi : s i with
              | false => rfl
              | true => have := hclosed j i hsi hor; rw [hns] at this; cases this
          rw [if_neg (by simp [hsi])] at hs
          exact hs
        · exact .top

/-- The slots after an operation. -/
theorem StM.slotsNew {all : List Oper} (S : StM all st tr) {s : Nat → Bool} {a : Act} (hsize : a.tmps.size = st.slots.length) {j : Nat} {o : Oper} (hj : all[j]? = some o) {e : Ent El} (he : tr[j]? = some e)
    {I' : Nat → Prop} {E' : Env} {w' : World} {v : Value} (hold : ∀ t, Rep c.L I' w' E' (slotF all tr st.slots s t) (a.tmps.getD t undef)) (hv : Rep c.L I' w' E' e.val v) :
    ∀ t, Rep c.L I' w' E' (slotF all tr st.slots (fun i => i == j || s i) t) ((a.put o.dst v).tmps.getD t undef) := by
  intro t
  have hs := hold t
  by_cases hdt : o.dst = some t
  · have hw : writerOf all t 0 = some j := by
      cases hw : writerOf all t 0 with
      | none => exact absurd hdt (writerOf_spec.2 hw j o hj)
      | some i =>
        obtain ⟨_, p, hp, hpd⟩ := writerOf_spec.1 i hw
        simp only [Nat.sub_zero] at hp
        by_cases hij : i = j
        · rw [hij]
        · exact absurd hpd (S.dst i j o p hj hp hij t hdt)
    unfold slotF
    rw [hw]
    simp only [beq_self_eq_true, Bool.true_or, if_true, he]
    rw [hdt]
    simp only [Act.put]
    have hlt : t < a.tmps.size := by rw [hsize]; exact S.room j o hj t hdt
    rw [Array.getD_eq_getD_getElem?, Array.getElem?_setIfInBounds_self_of_lt hlt]
    exact hv
  · have hput : (a.put o.dst v).tmps.getD t undef = a.tmps.getD t undef := by
      rw [Array.getD_eq_getD_getElem?, Array.getD_eq_getD_getElem?, put_keeps a o v hdt]
    rw [hput]
    have hslot : slotF all tr st.slots (fun i => i == j || s i) t = slotF all tr st.slots s t := by
      unfold slotF
      cases hw : writerOf all t 0 with
      | none => rfl
      | some i =>
        have hij : i ≠ j := by
          rintro rfl
          obtain ⟨_, p, hp, hpd⟩ := writerOf_spec.1 i hw
          simp only [Nat.sub_zero] at hp
          rw [hj] at hp; cases hp
          exact hdt hpd
        simp [hij]
    rw [hslot]
    exact hs

/-- All slots in the end. -/
theorem StM.fin {all : List Oper} (S : StM all st tr) {s : Nat → Bool} {a : Act} (hsize : a.tmps.size = st.slots.length) (hslots : ∀ t, Rep c.L I w E (slotF all tr st.slots s t) (a.tmps.getD t undef)) (hall : ∀ i, i < all.length → s i = true) :
    SlotsOk c I w E (finSlots all tr st.slots) a := by
  refine ⟨by rw [length_finSlots]; exact hsize.symm, fun t x v hx hv => ?_⟩
  have hs := hslots t
  have hx' : nth (finSlots all tr st.slots) t = x := by rw [nth_eq, List.getD_eq_getElem?_getD, hx]; rfl
  have hv' : a.tmps.getD t undef = v := by rw [Array.getD_eq_getD_getElem?, ← Array.getElem?_toList, hv]; rfl
  have hlt : t < st.slots.length := by
    rcases Nat.lt_or_ge t (finSlots all tr st.slots).length with h' | h'
    · rwa [length_finSlots] at h'
    · rw [List.getElem?_eq_none h'] at hx; cases hx
  rw [hv'] at hs
  have hslot : slotF all tr st.slots s t = x := by
    rw [← hx']
    unfold slotF
    cases hw : writerOf all t 0 with
    | none => exact (finSlots_none (writerOf_spec.2 hw) _ _).symm
    | some i =>
      obtain ⟨_, o, ho, hod⟩ := writerOf_spec.1 i hw
      simp only [Nat.sub_zero] at ho
      have hi : i < all.length := by
        rcases Nat.lt_or_ge i all.length with h' | h'
        · exact h'
        · rw [List.getElem?_eq_none h'] at ho; cases ho
      have hit : i < tr.length := by rw [S.len]; exact hi
      simp only [hall i hi, if_true, List.getElem?_eq_getElem hit]
      exact (finSlots_at ho hod (List.getElem?_eq_getElem hit) hlt (fun k p hp hk => S.dst k i o p ho hp (by omega) t hod)).symm
  rw [hslot] at hs
  exact hs
end static

section dyn
variable {c : Cx El} {Γ : FuncId → Option (GSpec El)} {st : St El} {tr : List (Ent El)} {I : Nat → Prop} {E : Env} {w : World} {R : List (Res El)}

theorem lit_ok {ρ : Operand → AVal El} {a : Act} {base : Nat} {o : Oper} {v : AVal El} (ev : ∀ x, Rep c.L I w E (ρ x) (a.eval x)) (hr : HR c.L I w E R) (hl : litOp o.op = true) (ho : (aop c Γ R base ρ o.op).Out (v, [])) :
    ∃ u, (execOp a.eval o).run c.P w = .ok (.value u) w ∧ Rep c.L I w E v u := by
  have pureV : ∀ {t : Tree (AVal El)} {s : Sem Value}, (execOp a.eval o = do pure (.value (← s))) → (pureT t).Out (v, []) → (∀ r, t.Out r → ∃ u, s.run c.P w = .ok u w ∧ Rep c.L I w E r u) →
      ∃ u, (execOp a.eval o).run c.P w = .ok (.value u) w ∧ Rep c.L I w E v u := by
    intro t s he hp hk
    obtain ⟨r, h1, h4⟩ := pureT_out hp
    cases h4
    obtain ⟨u, h2, h3⟩ := hk _ h1
    exact ⟨u, by rw [he]; simp [h2], h3⟩
  cases hop : o.op <;> rw [hop] at ho hl <;> simp only [litOp] at hl <;> try (cases hl; done)
  all_goals simp only [aop] at ho
  case move x => simp only [Tree.Out, Prod.mk.injEq, and_true] at ho; subst ho; exact ⟨a.eval x, by simp [execOp, hop], ev x⟩
  case assign x => simp only [Tree.Out, Prod.mk.injEq, and_true] at ho; subst ho; exact ⟨a.eval x, by simp [execOp, hop], ev x⟩
  case build t parts =>
    refine pureV (s := Instr.build t (parts.map fun (i, x) => (i, a.eval x))) (by simp [execOp, hop]) ho (fun r h => ?_)
    have := aBuild_ok (mapP_ok ev parts.toList) h
    have e : (parts.toList.map fun (p : Nat × Operand) => match p with | (i, x) => (i, a.eval x)).toArray = parts.map fun (p : Nat × Operand) => match p with | (i, x) => (i, a.eval x) := Array.ext' (by simp)
    rw [e] at this
    exact this
  case load t x => exact pureV (s := Instr.loadAt t (a.eval x)) (by simp [execOp, hop]) ho (fun r h => aLoad_ok hr (ev x) h)
  case makeFunc fn first caps =>
    cases fn <;> simp only at ho <;> try exact ho.elim
    rename_i f
    split at ho
    · rename_i hf
      simp only [Tree.Out, Prod.mk.injEq, and_true] at ho; subst ho
      have hf' : first = #[] := by cases first; simp_all
      subst hf'
      have hm := mapA_ok ev caps.toList
      have hcaps : caps.map a.eval = (caps.toList.map a.eval).toArray := Array.ext' (by simp)
      exact ⟨.func (.func f) #[] (caps.toList.map a.eval).toArray, by simp [execOp, hop, Instr.makeFunc, hcaps], .fn hm.len hm.at_⟩
    · exact ho.elim

/-- What the trace says of one operation. -/
def FactM (c : Cx El) (Γ : FuncId → Option (GSpec El)) (all : List Oper) (st : St El) (tr : List (Ent El)) (j : Nat) (o : Oper) (e : Ent El) : Prop :=
  o.guard = none ∧ ((∃ t, o.op = .makeMap t none ∧ j = 0 ∧ e.val = .mapr (lenR st.res)) ∨ (∃ t m k x, o.op = .insert t m k x ∧ e.val = .top) ∨
    (litOp o.op = true ∧ (aop c Γ st.res (lenR st.res) (evM all (ancs all) st.slots (tr.take j) j) o.op).Out (e.val, [])))
theorem traceM_spec {all : List Oper} {l : List Oper} {j : Nat} {tr tr' : List (Ent El)} (hlen : tr.length = j) (ho : (traceM c Γ all (ancs all) st l j tr).Out tr') :
    ∃ ext, tr' = tr ++ ext ∧ ext.length = l.length ∧ ∀ (k : Nat) (o : Oper) (e : Ent El), l[k]? = some o → ext[k]? = some e → FactM c Γ all st tr' (j + k) o e := by
  induction l generalizing j tr with
  | nil => simp only [traceM, Tree.Out] at ho; subst ho; exact ⟨[], by simp, rfl, fun k o e h => by simp at h⟩
  | cons o rest ih =>
    have step : ∀ x : Ent El, (∀ tr', tr'.take j = tr → FactM c Γ all st tr' j o x) → (traceM c Γ all (ancs all) st rest (j + 1) (tr ++ [x])).Out tr' →
        ∃ ext, tr' = tr ++ ext ∧ ext.length = (o :: rest).length ∧ ∀ (k : Nat) (o' : Oper) (e : Ent El), (o :: rest)[k]? = some o' → ext[k]? = some e → FactM c Γ all st tr' (j + k) o' e := by
      intro x hx h
      obtain ⟨ext, h1, h2, h3⟩ := ih (by simp [hlen]) h
      refine ⟨x :: ext, by rw [h1]; simp, by simp [h2], fun k o' e hk he => ?_⟩
      cases k with
      | zero =>
        simp at hk he; subst hk; subst he
        exact hx _ (by rw [h1, List.append_assoc, List.take_left' hlen])
      | succ k =>
        have := h3 k o' e (by simpa using hk) (by simpa using he)
        rwa [show j + 1 + k = j + (k + 1) from by omega] at this
    unfold traceM at ho
    split at ho
    · exact ho.elim
    · rename_i hg
      split at ho
      · rename_i t hop
        split at ho
        · exact step _ (fun tr' _ => ⟨hg, .inl ⟨t, hop, rfl, rfl⟩⟩) ho
        · exact ho.elim
      · rename_i t m k x hop
        exact step _ (fun tr' _ => ⟨hg, .inr (.inl ⟨t, m, k, x, hop, rfl⟩)⟩) ho
      · split at ho
        · rename_i hl
          rw [Tree.out_bind] at ho
          obtain ⟨y, h1, h2⟩ := ho
          obtain ⟨v, u⟩ := y
          cases u with
          | nil => exact step _ (fun tr' ht => ⟨hg, .inr (.inr ⟨hl, by rw [ht]; exact h1⟩)⟩) h2
          | cons _ _ => exact h2.elim
        · exact ho.elim

theorem insOf_mem {all : List Oper} {an : List Nat} {slots : List (AVal El)} {l : List Oper} {j0 k : Nat} {o : Oper} {t : TypeId} {m kk x : Operand} (h : l[k]? = some o) (ho : o.op = .insert t m kk x) :
    (j0 + k, evM all an slots (tr.take (j0 + k)) (j0 + k) kk, evM all an slots (tr.take (j0 + k)) (j0 + k) x) ∈ insOf all an slots tr l j0 := by
  induction l generalizing j0 k with
  | nil => simp at h
  | cons o' l ih =>
    cases k with
    | zero =>
      simp at h; subst h
      simp only [insOf, ho]
      exact List.mem_cons_self ..
    | succ k =>
      have := ih (j0 := j0 + 1) (k := k) (by simpa using h)
      rw [show j0 + 1 + k = j0 + (k + 1) from by omega] at this
      unfold insOf
      split
      · exact List.mem_cons_of_mem _ this
      · exact this
theorem insOf_inv {all : List Oper} {an : List Nat} {slots : List (AVal El)} {l : List Oper} {j0 : Nat} {p : KV El} (h : p ∈ insOf all an slots tr l j0) :
    ∃ k o t m kk x, l[k]? = some o ∧ o.op = .insert t m kk x ∧ p = (j0 + k, evM all an slots (tr.take (j0 + k)) (j0 + k) kk, evM all an slots (tr.take (j0 + k)) (j0 + k) x) := by
  induction l generalizing j0 with
  | nil => simp [insOf] at h
  | cons o l ih =>
    have tail : p ∈ insOf all an slots tr l (j0 + 1) → ∃ k o' t m kk x, (o :: l)[k]? = some o' ∧ o'.op = .insert t m kk x ∧ p = (j0 + k, evM all an slots (tr.take (j0 + k)) (j0 + k) kk, evM all an slots (tr.take (j0 + k)) (j0 + k) x) := fun h => by
      obtain ⟨k, o', t, m, kk, x, h1, h2, h3⟩ := ih h
      refine ⟨k + 1, o', t, m, kk, x, by simpa using h1, h2, ?_⟩
      rw [show j0 + (k + 1) = j0 + 1 + k from by omega]; exact h3
    unfold insOf at h
    split at h
    · rename_i t m kk x hop
      rcases List.mem_cons.1 h with h | h
      · exact ⟨0, o, t, m, kk, x, rfl, hop, h⟩
      · exact tail h
    · exact tail h
theorem insOf_nodup {all : List Oper} {an : List Nat} {slots : List (AVal El)} {l : List Oper} {j0 : Nat} : (insOf all an slots tr l j0).Pairwise (fun p q => p.1 ≠ q.1) := by
  induction l generalizing j0 with
  | nil => exact List.Pairwise.nil
  | cons o l ih =>
    unfold insOf
    split
    · refine List.pairwise_cons.2 ⟨fun q hq => ?_, ih⟩
      obtain ⟨k, _, _, _, _, _, _, _, h3⟩ := insOf_inv hq
      rw [h3]; simp only; omega
    · exact ih
theorem apart1_at {k : AVal El} {l : List (KV El)} (h : apart1 k l = true) {p : KV El} (hp : p ∈ l) : differ k p.2.1 = true ∧ differ p.2.1 k = true := by
  induction l with
  | nil => cases hp
  | cons q l ih =>
    simp only [apart1, Bool.and_eq_true] at h
    rcases List.mem_cons.1 hp with rfl | hp
    · exact h.1
    · exact ih h.2 hp
theorem apartM_at {l : List (KV El)} (h : apartM l = true) {p q : KV El} (hp : p ∈ l) (hq : q ∈ l) (hne : p.1 ≠ q.1) : differ p.2.1 q.2.1 = true := by
  induction l with
  | nil => cases hp
  | cons x l ih =>
    simp only [apartM, Bool.and_eq_true] at h
    rcases List.mem_cons.1 hp with e1 | k1
    · rcases List.mem_cons.1 hq with e2 | k2
      · exact absurd (by rw [e1, e2]) hne
      · rw [e1]; exact (apart1_at h.1 k2).1
    · rcases List.mem_cons.1 hq with e2 | k2
      · rw [e2]; exact (apart1_at h.1 k1).2
      · exact ih h.2 k1 k2
theorem filter_more {X : Type} {L : List (Nat × X)} (hn : L.Pairwise (fun p q => p.1 ≠ q.1)) {p : Nat × X} (hp : p ∈ L) {s : Nat → Bool} (hs : s p.1 = false) : ((L.filter fun q => s q.1) ++ [p]).Perm (L.filter fun q => q.1 == p.1 || s q.1) := by
  induction L with
  | nil => cases hp
  | cons a L ih =>
    obtain ⟨h1, h2⟩ := List.pairwise_cons.1 hn
    rcases List.mem_cons.1 hp with rfl | hp
    · have e : (L.filter fun q => q.1 == p.1 || s q.1) = L.filter fun q => s q.1 := List.filter_congr (fun q hq => by
        have : (q.1 == p.1) = false := by simpa using fun he => h1 q hq he.symm
        rw [this, Bool.false_or])
      simp only [List.filter_cons, hs, beq_self_eq_true, Bool.true_or, if_true, e]
      exact List.perm_append_singleton _ _
    · have hne : (a.1 == p.1) = false := by simpa using h1 p hp
      simp only [List.filter_cons, hne, Bool.false_or]
      cases hsa : s a.1 with
      | true => simp only [if_true, List.cons_append]; exact (ih h2 hp).cons _
      | false => simpa using ih h2 hp
theorem reps_perm {ps ps' : List (KV El)} (hp : ps.Perm ps') {l : List MapEntry} (h : Reps c.L I w E (flatP ps) (entL l)) : ∃ l', l.Perm l' ∧ Reps c.L I w E (flatP ps') (entL l') := by
  have two : ∀ {p : KV El} {ps : List (KV El)} {l : List MapEntry}, Reps c.L I w E (flatP (p :: ps)) (entL l) → ∃ q l', l = q :: l' ∧ Rep c.L I w E p.2.1 q.key ∧ Rep c.L I w E p.2.2 q.val ∧ Reps c.L I w E (flatP ps) (entL l') := by
    intro p ps l h
    cases l with
    | nil => have := h.len; simp [entL, flatP] at this
    | cons q l =>
      simp only [flatP, entL] at h
      obtain ⟨v, vs, e1, h1, h2⟩ := h.inv_cons
      obtain ⟨u, us, e2, h3, h4⟩ := h2.inv_cons
      subst e2
      simp only [List.cons.injEq] at e1
      obtain ⟨rfl, rfl, rfl⟩ := e1
      exact ⟨q, l, rfl, h1, h3, h4⟩
  induction hp generalizing l with
  | nil => exact ⟨l, List.Perm.refl _, h⟩
  | cons p _ ih =>
    obtain ⟨q, l', rfl, h1, h2, h3⟩ := two h
    obtain ⟨l'', g1, g2⟩ := ih h3
    exact ⟨q :: l'', g1.cons _, Reps.cons h1 (Reps.cons h2 g2)⟩
  | swap p p' ps =>
    obtain ⟨q, l', rfl, h1, h2, h3⟩ := two h
    obtain ⟨q', l'', rfl, h4, h5, h6⟩ := two h3
    exact ⟨q' :: q :: l'', List.Perm.swap _ _ _, Reps.cons h4 (Reps.cons h5 (Reps.cons h1 (Reps.cons h2 h6)))⟩
  | trans _ _ ih1 ih2 =>
    obtain ⟨l1, g1, g2⟩ := ih1 h
    obtain ⟨l2, g3, g4⟩ := ih2 g2
    exact ⟨l2, g1.trans g3, g4⟩
theorem flatP_mem {ps : List (KV El)} {l : List MapEntry} (h : Reps c.L I w E (flatP ps) (entL l)) {q : MapEntry} (hq : q ∈ l) : ∃ p ∈ ps, Rep c.L I w E p.2.1 q.key := by
  induction ps generalizing l with
  | nil => cases l with
    | nil => cases hq
    | cons q l => have := h.len; simp [entL, flatP] at this
  | cons p ps ih =>
    cases l with
    | nil => cases hq
    | cons q' l =>
      simp only [flatP, entL] at h
      obtain ⟨v, vs, e1, h1, h2⟩ := h.inv_cons
      obtain ⟨u, us, e2, h3, h4⟩ := h2.inv_cons
      subst e2
      simp only [List.cons.injEq] at e1
      obtain ⟨rfl, rfl, rfl⟩ := e1
      rcases List.mem_cons.1 hq with rfl | hq
      · exact ⟨p, List.mem_cons_self .., h1⟩
      · obtain ⟨p', g1, g2⟩ := ih h4 hq
        exact ⟨p', List.mem_cons_of_mem _ g1, g2⟩
theorem flatP_snoc (ps : List (KV El)) (p : KV El) : flatP (ps ++ [p]) = flatP ps ++ [p.2.1, p.2.2] := by
  induction ps with
  | nil => rfl
  | cons a ps ih => simp [flatP, ih]
/-- A region that draws its order, by what holds when some of its operations are done. -/
theorem wpAny_gen {P : Program} {ops : Array Oper} {Q : Exit → Act → World → Prop} {Inv : (Nat → Bool) → Act → World → Prop}
    (hedge : ∀ (j : Nat) (o : Oper), ops.toList[j]? = some o → ∀ d ∈ o.after.toList, Region.binds .any d = true → d.on < j)
    (closed : ∀ s a w, Inv s a w → ∀ i j, s j = true → (natAt (ancs ops.toList) j).testBit i = true → s i = true)
    (step : ∀ s a w j o, Inv s a w → ops.toList[j]? = some o → s j = false → (∀ i, (natAt (ancs ops.toList) j).testBit i = true → s i = true) → o.guard = none ∧ Does P o a w fun v w' => Inv (fun i => i == j || s i) (a.put o.dst v) w')
    (fin : ∀ s a w, Inv s a w → (∀ i, i < ops.size → s i = true) → Q .normal a w) :
    ∀ (fuel : Nat) (listed : Array Bool) (a : Act) (w : World), listed.size = ops.size → ((List.range ops.size).filter fun i => !listed.getD i false).length ≤ fuel →
      Inv (fun i => listed.getD i false) a w → wpAny P .any ops Q fuel listed a w := by
  have full : ∀ (listed : Array Bool), listed.size = ops.size → Region.ready .any ops listed = [] → ∀ i, i < ops.size → listed.getD i false = true := by
    intro listed hsz hr i
    induction i using Nat.strongRecOn with
    | _ i ih =>
      intro hi
      cases hb : listed.getD i false with
      | true => rfl
      | false =>
        have : i ∈ Region.ready .any ops listed := by
          refine mem_ready.2 ⟨?_, ops[i], Array.getElem?_eq_getElem hi, fun e he hbd => ?_⟩
          · have hil : i < listed.size := by omega
            simpa [Array.getD_eq_getD_getElem?, Array.getElem?_eq_getElem hil] using hb
          · have hlt := hedge i ops[i] (by simp [hi]) e (by simpa using he) hbd
            exact ih e.on hlt (by omega)
        rw [hr] at this; cases this
  intro fuel
  induction fuel with
  | zero =>
    intro listed a w hsz hcount h
    have hall : ∀ i, i < ops.size → listed.getD i false = true := by
      intro i hi
      cases hb : listed.getD i false with
      | true => rfl
      | false =>
        have : i ∈ (List.range ops.size).filter fun i => !listed.getD i false := List.mem_filter.2 ⟨List.mem_range.2 hi, by simp [hb]⟩
        have hnil : ((List.range ops.size).filter fun i => !listed.getD i false) = [] := List.eq_nil_of_length_eq_zero (by omega)
        rw [hnil] at this
        cases this
    refine ⟨?_, fin _ a w h hall⟩
    apply List.eq_nil_iff_forall_not_mem.2
    intro j hj
    obtain ⟨h1, o, ho, _⟩ := mem_ready.1 hj
    have hjs : j < ops.size := (Array.getElem?_eq_some_iff.1 ho).1
    have := hall j hjs
    have hil : j < listed.size := by omega
    simp [Array.getD_eq_getD_getElem?, Array.getElem?_eq_getElem hil] at this h1
    rw [this] at h1; cases h1
  | succ fuel ih =>
    intro listed a w hsz hcount h
    refine ⟨fun hr => fin _ a w h (full listed hsz hr), fun j hj => ?_⟩
    obtain ⟨h1, o, ho, hedges⟩ := mem_ready.1 hj
    have hjs : j < ops.size := (Array.getElem?_eq_some_iff.1 ho).1
    have hjl : j < listed.size := by omega
    have hns : listed.getD j false = false := by
      simpa [Array.getD_eq_getD_getElem?, Array.getElem?_eq_getElem hjl] using h1
    have hol : ops.toList[j]? = some o := by simpa using ho
    have hanc : ∀ i, (natAt (ancs ops.toList) j).testBit i = true → listed.getD i false = true := by
      intro i hi
      obtain ⟨e, g1, g2, g3⟩ := (ancs_bit hol).1 hi
      have he := hedges e (by simpa using g1) g2
      rcases g3 with rfl | ⟨_, g4⟩
      · exact he
      · exact closed _ a w h i e.on he g4
    have hset : ∀ i, (listed.setIfInBounds j true).getD i false = (i == j || listed.getD i false) := by
      intro i
      by_cases hij : i = j
      · subst hij
        rw [getD_set_true' hjl]
        simp
      · rw [getD_set_ne false (Ne.symm hij)]
        simp [hij]
    have hcount' : ((List.range ops.size).filter fun i => !(listed.setIfInBounds j true).getD i false).length ≤ fuel := by
      have hsub : ((List.range ops.size).filter fun i => !(listed.setIfInBounds j true).getD i false) = ((List.range ops.size).filter fun i => !listed.getD i false).filter (fun i => i != j) := by
        rw [List.filter_filter]
        apply List.filter_congr
        intro i _
        rw [hset i]
        cases hb : (i == j) <;> simp [bne, hb]
      rw [hsub]
      have hmem : j ∈ (List.range ops.size).filter fun i => !listed.getD i false := List.mem_filter.2 ⟨List.mem_range.2 hjs, by simp [hns]⟩
      have := length_filter_ne hmem
      omega
    have hinv : ∀ {a' : Act} {w' : World}, Inv (fun i => i == j || listed.getD i false) a' w' → Inv (fun i => (listed.setIfInBounds j true).getD i false) a' w' := by
      intro a' w' h'
      have : (fun i => (listed.setIfInBounds j true).getD i false) = (fun i => i == j || listed.getD i false) := funext hset
      rw [this]; exact h'
    unfold wpOp
    rw [ho]
    simp only
    obtain ⟨hg, hdoes⟩ := step _ a w j o h hol hns hanc
    rw [if_pos (by simp [Region.wanted, hg])]
    refine .inl (hdoes _ _ ?_)
    rintro v w' h'
    exact ih _ _ w' (by simpa using hsz) hcount' (hinv h')

/-- What holds when the operations of 's' have been carried out, in whatever order. -/
structure InvM (c : Cx El) (all : List Oper) (st : St El) (tr : List (Ent El)) (I0 : Nat → Prop) (E0 : Env) (a0 : Act) (w0 : World) (s : Nat → Bool) (a : Act) (w : World) (E : Env) : Prop where
  fr : Fr (fun _ => False) w0 w
  slots : ∀ t, Rep c.L I0 w E (slotF all tr st.slots s t) (a.tmps.getD t undef)
  size : a.tmps.size = st.slots.length
  nodefer : a.defers = []
  keeps : Keeps all a0 a
  closed : ∀ i j, s j = true → (natAt (ancs all) j).testBit i = true → s i = true
  not0 : s 0 = false → E = E0 ∧ ∀ p ∈ insOf all (ancs all) st.slots tr all 0, s p.1 = false
  yes0 : s 0 = true → ∃ b arr clock l ps, E = E0.put (lenR st.res) ⟨some b, .map (some b)⟩ ∧ w0.heap.size ≤ b ∧ w.heap[b]? = some (.map arr clock) ∧ List.Perm ps ((insOf all (ancs all) st.slots tr all 0).filter fun p => s p.1) ∧
    Reps c.L I0 w E (flatP ps) (entL l) ∧ List.Perm l arr.toList ∧ (l.map (·.key)).Nodup
theorem HR.leM {L : Lay El} {I : Nat → Prop} {w : World} {E E' : Env} {R : List (Res El)} (h : HR L I w E R) (hE : E.le E') : HR L I w E' R := by
  have back : ∀ r e, getR R r ≠ .dead → E' r = some e → E r = some e := fun r e hr he => by
    obtain ⟨e', h1, _⟩ := h.res r hr
    have := hE r e' h1
    rw [he] at this; cases this; exact h1
  refine ⟨fun r hr => ?_, fun r r' e e' b h1 h2 h3 h4 h5 h6 => h.apart r r' e e' b h1 h2 (back r e h1 h3) (back r' e' h2 h4) h5 h6, fun b hb => h.notI b ?_, h.old⟩
  · obtain ⟨e, h1, h2⟩ := h.res r hr
    exact ⟨e, hE r e h1, h2.keep (fun _ h => h) (fun _ _ => rfl) hE (fun _ _ _ => rfl)⟩
  · obtain ⟨r, e, h1, h2, h3⟩ := hb
    exact ⟨r, e, h1, back r e h1 h2, h3⟩
theorem step_m {all : List Oper} {I0 : Nat → Prop} {E0 : Env} {a0 : Act} {w0 : World} (hr0 : HR c.L I0 w0 E0 st.res) (hfree : E0 (lenR st.res) = none) (S : StM all st tr) {t kt et : TypeId} (hu : c.P.underlying t = some (.map kt et))
    (hop0 : ∃ o0, all[0]? = some o0 ∧ o0.op = .makeMap t none) (facts : ∀ j o e, all[j]? = some o → tr[j]? = some e → FactM c Γ all st tr j o e)
    (okIns : ∀ (j : Nat) (o : Oper) (t' : TypeId) (m k x : Operand), all[j]? = some o → o.op = .insert t' m k x → t' = t ∧ evM all (ancs all) st.slots (tr.take j) j m = .mapr (lenR st.res) ∧ shpK c kt (evM all (ancs all) st.slots (tr.take j) j k) = true)
    (hap : apartM (insOf all (ancs all) st.slots tr all 0) = true) {s : Nat → Bool} {a : Act} {w : World} {E : Env} (h : InvM c all st tr I0 E0 a0 w0 s a w E) {j : Nat} {o : Oper} (hj : all[j]? = some o) (hns : s j = false)
    (hanc : ∀ i, (natAt (ancs all) j).testBit i = true → s i = true) : o.guard = none ∧ Does c.P o a w fun v w' => ∃ E', InvM c all st tr I0 E0 a0 w0 (fun i => i == j || s i) (a.put o.dst v) w' E' := by
  have hjl : j < all.length := by
    rcases Nat.lt_or_ge j all.length with h' | h'
    · exact h'
    · rw [List.getElem?_eq_none h'] at hj; cases hj
  obtain ⟨e, he⟩ : ∃ e, tr[j]? = some e := ⟨tr[j]'(by rw [S.len]; exact hjl), List.getElem?_eq_getElem _⟩
  obtain ⟨hg, hf⟩ := facts j o e hj he
  refine ⟨hg, ?_⟩
  have ev := S.ev h.slots hj hns hanc h.closed
  have hrw : HR c.L I0 w E0 st.res := hr0.grow h.fr
  have old : ∀ b, I0 b → b < w.heap.size := fun b hb => Nat.lt_of_lt_of_le (hr0.old b hb) h.fr.size
  have keepsNew : ∀ v, Keeps all a0 (a.put o.dst v) := fun v => ⟨(put_size _ _ _).trans h.keeps.1, fun t ht => (put_keeps a o v (ht o (List.mem_of_getElem? hj))).trans (h.keeps.2 t ht)⟩
  have closedNew : ∀ i k, ((k == j || s k) = true) → (natAt (ancs all) k).testBit i = true → (i == j || s i) = true := by
    intro i k hk hi
    simp only [Bool.or_eq_true, beq_iff_eq] at hk ⊢
    rcases hk with rfl | hk
    · exact .inr (hanc i hi)
    · exact .inr (h.closed i k hk hi)
  rcases hf with ⟨t', hop, rfl, hval⟩ | ⟨t', m, k, x, hop, hval⟩ | ⟨hl, hout⟩
  · -- the map
    obtain ⟨rfl, hno⟩ := h.not0 hns
    have hrun : (execOp a.eval o).run c.P w = .ok (.value (.map (some w.heap.size))) (w.alloc (.map #[] 0)) := by simp [execOp, hop, Instr.makeMap, Result.andThen]
    refine does_value hrun ⟨E.put (lenR st.res) ⟨some w.heap.size, .map (some w.heap.size)⟩, ?_⟩
    have hle := Env.le_put (e := ⟨some w.heap.size, .map (some w.heap.size)⟩) hfree
    refine ⟨h.fr.trans (Fr.alloc w _) (fun _ h => h.elim), S.slotsNew h.size hj he (fun t => (h.slots t).mono (fun _ h => h) (fun b hb => (Fr.alloc w _).block b (old b hb) id) hle) (by rw [hval]; exact .mapr (Env.put_same _ _ _)),
      (put_size _ _ _).trans h.size, by rw [put_defers]; exact h.nodefer, keepsNew _, closedNew, fun h0 => by simp at h0, fun _ => ?_⟩
    refine ⟨w.heap.size, #[], 0, [], [], rfl, h.fr.size, (MapKept.heap_alloc w _).1, ?_, Reps.nil, List.Perm.refl _, List.nodup_nil⟩
    have : (insOf all (ancs all) st.slots tr all 0).filter (fun p => p.1 == 0 || s p.1) = [] := by
      rw [List.filter_eq_nil_iff]
      intro p hp
      rw [hno p hp]
      obtain ⟨k, o', t'', m, kk, x, h1, h2, h3⟩ := insOf_inv hp
      rw [h3]
      simp only [Nat.zero_add, Bool.or_false, beq_iff_eq]
      intro hk
      subst hk
      rw [hj] at h1; cases h1
      rw [hop] at h2; cases h2
    rw [this]
  · -- an entry
    obtain ⟨rfl, hm, hks⟩ := okIns j o t' m k x hj hop
    have hin := insOf_mem (all := all) (an := ancs all) (slots := st.slots) (tr := tr) (j0 := 0) hj hop
    rw [Nat.zero_add] at hin
    have evm := ev m
    rw [hm] at evm
    cases hs0 : s 0 with
    | false =>
      obtain ⟨rfl, _⟩ := h.not0 hs0
      generalize a.eval m = vm at evm
      cases evm with
      | mapr hE => rw [hfree] at hE; cases hE
    | true =>
      obtain ⟨b, arr, clock, l, ps, rfl, hb0, hb, hps, hl, hlp, hnd⟩ := h.yes0 hs0
      generalize hvm : a.eval m = vm at evm
      cases evm with
      | mapr hE =>
        rw [Env.put_same] at hE; cases hE
        obtain ⟨ck, fs⟩ := find_spec hks (ev k)
        have hcmp : ∀ q ∈ l, ∃ ka, shpK c kt ka = true ∧ Rep c.L I0 w (E0.put (lenR st.res) ⟨some b, .map (some b)⟩) ka q.key ∧ eqKey (evM all (ancs all) st.slots (tr.take j) j k) ka = some false := fun q hq => by
          obtain ⟨p, hp, h1⟩ := flatP_mem hl hq
          have hpf := hps.mem_iff.1 hp
          obtain ⟨hpi, hps'⟩ := List.mem_filter.1 hpf
          obtain ⟨kk, o', t'', m', k', x', g1, g2, g3⟩ := insOf_inv hpi
          have hne : j ≠ p.1 := fun hh => by rw [hh, hps'] at hns; cases hns
          have hd := apartM_at hap hin hpi hne
          simp only [Nat.zero_add] at g3
          refine ⟨p.2.1, by rw [g3]; exact (okIns kk o' t'' m' k' x' g1 g2).2.2, h1, ?_⟩
          unfold differ at hd
          split at hd
          · rename_i b' hb'; rw [hb']; simpa using hd
          · cases hd
        have hkey : ∀ q ∈ l, q.key ≠ a.eval k := fun q hq hh => by
          obtain ⟨ka, _, h1, h2⟩ := hcmp q hq
          have := (eqKey_iff h2 (ev k) h1).2 hh.symm
          cases this
        rcases fs (l := arr.toList) (fun q hq => by obtain ⟨ka, h1, h2, h3⟩ := hcmp q (hlp.mem_iff.2 hq); exact ⟨ka, false, h1, h2, h3⟩) with ⟨f1, _⟩ | ⟨_, q, _, f2, f3⟩
        · have hrun : (execOp a.eval o).run c.P w = .ok .skip { w with heap := w.heap.setIfInBounds b (.map (arr.push ⟨a.eval k, a.eval x, clock⟩) (clock + 1)) } := by
            simp [execOp, hop, hvm, Instr.mapUpdate, run_underlying hu, MapKept.run_getObj_map hb, ck, f1, MapKept.run_setObj_map _ hb, Result.andThen]
          have hblk : ∀ k', k' ≠ b → (w.heap.setIfInBounds b (.map (arr.push ⟨a.eval k, a.eval x, clock⟩) (clock + 1)))[k']? = w.heap[k']? := fun k' hk' => (MapKept.heap_set hb).2 k' hk'
          have hI : ∀ k', I0 k' → (w.heap.setIfInBounds b (.map (arr.push ⟨a.eval k, a.eval x, clock⟩) (clock + 1)))[k']? = w.heap[k']? := fun k' hk' => hblk k' (fun hh => by have := hr0.old k' hk'; omega)
          refine does_skip hrun ⟨E0.put (lenR st.res) ⟨some b, .map (some b)⟩, ?_⟩
          refine ⟨⟨h.fr.os, h.fr.tape, h.fr.output, by simpa using h.fr.size, fun k' hk' hn => (hblk k' (by omega)).trans (h.fr.block k' hk' hn)⟩,
            S.slotsNew h.size hj he (fun t => (h.slots t).mono (fun _ h => h) hI (Env.le_refl _)) (by rw [hval]; exact .top), (put_size _ _ _).trans h.size, by rw [put_defers]; exact h.nodefer, keepsNew _, closedNew,
            fun h0 => by simp [hs0] at h0, fun _ => ?_⟩
          refine ⟨b, _, _, l ++ [⟨a.eval k, a.eval x, clock⟩], ps ++ [(j, evM all (ancs all) st.slots (tr.take j) j k, evM all (ancs all) st.slots (tr.take j) j x)], rfl, hb0, (MapKept.heap_set hb).1, ?_, ?_, ?_, ?_⟩
          · exact (hps.append_right _).trans (filter_more insOf_nodup hin hns)
          · rw [flatP_snoc, entL_snoc]
            exact (hl.append (Reps.cons (ev k) (Reps.cons (ev x) Reps.nil))).mono (fun _ h => h) hI (Env.le_refl _)
          · rw [Array.toList_push]; exact hlp.append_right _
          · rw [List.map_append, List.nodup_append]
            refine ⟨hnd, by simp, fun a' ha' b' hb' => ?_⟩
            simp at hb'; subst hb'
            obtain ⟨q, hq, rfl⟩ := List.mem_map.1 ha'
            exact hkey q hq
        · exact absurd f3 (hkey q (hlp.mem_iff.2 (List.mem_of_getElem? f2)))
  · -- the others
    have hrE : HR c.L I0 w E st.res := by
      cases hs0 : s 0 with
      | false => obtain ⟨rfl, _⟩ := h.not0 hs0; exact hrw
      | true =>
        obtain ⟨b, arr, clock, l, ps, rfl, hb0, hb, _⟩ := h.yes0 hs0
        exact hrw.leM (Env.le_put hfree)
    obtain ⟨u, h1, h2⟩ := lit_ok ev hrE hl hout
    refine does_value h1 ⟨E, ?_⟩
    have hnoIns : ∀ p ∈ insOf all (ancs all) st.slots tr all 0, (p.1 == j) = false := fun p hp => by
      obtain ⟨k, o', t'', m, kk, x, g1, g2, g3⟩ := insOf_inv hp
      simp only [Nat.zero_add] at g3
      rw [g3]
      simp only [beq_eq_false_iff_ne, ne_eq]
      intro hk; subst hk
      rw [hj] at g1; cases g1
      rw [g2] at hl; cases hl
    have hj0 : j ≠ 0 := by
      intro h0; subst h0
      obtain ⟨o0, g1, g2⟩ := hop0
      rw [hj] at g1; cases g1
      rw [g2] at hl; cases hl
    have e0 : ((0 : Nat) == j) = false := by simpa using fun hh => hj0 hh.symm
    refine ⟨h.fr, S.slotsNew h.size hj he h.slots h2, (put_size _ _ _).trans h.size, by rw [put_defers]; exact h.nodefer, keepsNew _, closedNew, fun h0 => ?_, fun h0 => ?_⟩
    · rw [e0, Bool.false_or] at h0
      obtain ⟨g1, g2⟩ := h.not0 h0
      exact ⟨g1, fun p hp => by rw [hnoIns p hp, Bool.false_or]; exact g2 p hp⟩
    · rw [e0, Bool.false_or] at h0
      obtain ⟨b, arr, clock, l, ps, g1, g2, g3, g4, g5⟩ := h.yes0 h0
      refine ⟨b, arr, clock, l, ps, g1, g2, g3, ?_, g5⟩
      have : (insOf all (ancs all) st.slots tr all 0).filter (fun p => p.1 == j || s p.1) = (insOf all (ancs all) st.slots tr all 0).filter (fun p => s p.1) := List.filter_congr (fun p hp => by rw [hnoIns p hp, Bool.false_or])
      rw [this]; exact g4
theorem okM_at {all : List Oper} {t kt : TypeId} {an : List Nat} (h : okM c t kt st all an tr = true) {j : Nat} {o : Oper} (hj : all[j]? = some o) :
    (o.after.toList.all fun d => !Region.binds .any d || decide (d.on < j)) = true ∧ (match o.dst with | some d => decide (d < lenA st.slots) | none => true) = true ∧
      (match o.op with
        | .insert t' m k _ => Nat.beq t' t && isMapr (lenR st.res) (evM all an st.slots (tr.take j) j m) && shpK c kt (evM all an st.slots (tr.take j) j k)
        | _ => true) = true ∧ ∀ i p, all[i]? = some p → i ≠ j → (match o.dst, p.dst with | some d, some d' => decide (d ≠ d') | _, _ => true) = true := by
  have hlt : ∀ {i : Nat} {p : Oper}, all[i]? = some p → i < all.length := fun {i p} h => by
    rcases Nat.lt_or_ge i all.length with h' | h'
    · exact h'
    · rw [List.getElem?_eq_none h'] at h; cases h
  unfold okM at h
  rw [List.all_eq_true] at h
  have h1 := h j (List.mem_range.2 (hlt hj))
  rw [hj] at h1
  simp only [Bool.and_eq_true] at h1
  obtain ⟨⟨⟨h1, h2⟩, h3⟩, h4⟩ := h1
  refine ⟨h1, h2, h3, fun i p hp hij => ?_⟩
  rw [List.all_eq_true] at h4
  have h5 := h4 i (List.mem_range.2 (hlt hp))
  rw [hp] at h5
  simpa [hij] using h5
theorem lenR_new (R : List (Res El)) (x : Res El) : lenR (setR R (lenR R) x) = lenR R + 1 := by
  induction R with
  | nil => rfl
  | cons a R ih => simp only [lenR, setR, ih]
theorem aregionM_ok {ops : Array Oper} {id : Nat} {Q : Exit → Act → World → Prop} {st' : St El} {I : Nat → Prop} {E : Env} {a : Act} {w : World} (ho : (aregionM c Γ ops.toList st).Out st')
    (h : HoldS c I E st a w) (hQ : ∀ a' w' I' E', Ext I E st.res w I' E' st'.res w' → HoldS c I' E' st' a' w' → Keeps ops.toList a a' → Names E st E' st' → Q .normal a' w') : (Code.region id ops true).wp c.P Q a w := by
  unfold aregionM at ho
  split at ho
  · rename_i o0 rest hall
    split at ho
    · rename_i t hop
      split at ho
      · rename_i kt et hu
        rw [Tree.out_bind] at ho
        obtain ⟨tr, ht, ho⟩ := ho
        split at ho
        · rename_i hk
          simp only [Bool.and_eq_true] at hk
          obtain ⟨hk, hap⟩ := hk
          simp only [Tree.Out] at ho; subst ho
          obtain ⟨ext, h1, h2, h3⟩ := traceM_spec (tr := []) (j := 0) rfl ht
          simp only [List.nil_append] at h1; subst h1
          have S : StM ops.toList st tr := ⟨h2, fun j o hj d hd hb => by
              have := (okM_at hk hj).1
              rw [List.all_eq_true] at this
              simpa [hb] using this d hd,
            fun i j o p hj hp hij d hd hp' => by
              have := (okM_at hk hj).2.2.2 i p hp hij
              rw [hd, hp'] at this; simp at this,
            fun j o hj d hd => by
              have := (okM_at hk hj).2.1
              rw [hd, lenA_eq] at this; simpa using this⟩
          have hfree := h.free (lenR st.res) (Nat.le_refl _)
          have hf := Fr.drew w
          have hr0 : HR c.L I w.drew E st.res := h.hr.grow hf
          have facts : ∀ j o e, ops.toList[j]? = some o → tr[j]? = some e → FactM c Γ ops.toList st tr j o e := fun j o e hj he => by
            have := h3 j o e hj he; rwa [Nat.zero_add] at this
          have okIns : ∀ (j : Nat) (o : Oper) (t' : TypeId) (m k x : Operand), ops.toList[j]? = some o → o.op = .insert t' m k x → t' = t ∧ evM ops.toList (ancs ops.toList) st.slots (tr.take j) j m = .mapr (lenR st.res) ∧ shpK c kt (evM ops.toList (ancs ops.toList) st.slots (tr.take j) j k) = true := fun j o t' m k x hj hop => by
            have := (okM_at hk hj).2.2.1
            rw [hop] at this
            simp only [Bool.and_eq_true] at this
            obtain ⟨⟨g1, g2⟩, g3⟩ := this
            refine ⟨Nat.eq_of_beq_eq_true g1, ?_, g3⟩
            generalize evM ops.toList (ancs ops.toList) st.slots (tr.take j) j m = am at g2
            cases am <;> simp only [isMapr] at g2 <;> try (cases g2; done)
            rw [Nat.eq_of_beq_eq_true g2]
          have hop0 : ∃ o0, ops.toList[0]? = some o0 ∧ o0.op = .makeMap t none := ⟨o0, by rw [hall]; rfl, hop⟩
          have hfin : ∀ (s : Nat → Bool) (a' : Act) (w' : World), (∃ E', InvM c ops.toList st tr I E a w.drew s a' w' E') → (∀ i, i < ops.size → s i = true) → Q .normal a' w' := by
            rintro s a' w' ⟨E', hi⟩ hall'
            have hs0 : s 0 = true := hall' 0 (by
              have : 0 < ops.toList.length := by rw [hall]; simp
              simpa using this)
            obtain ⟨b, arr, clock, l, ps, rfl, hb0, hb, hps, hl, hlp, hnd⟩ := hi.yes0 hs0
            have hfull : (insOf ops.toList (ancs ops.toList) st.slots tr ops.toList 0).filter (fun p => s p.1) = insOf ops.toList (ancs ops.toList) st.slots tr ops.toList 0 := by
              rw [List.filter_eq_self]
              intro p hp
              obtain ⟨k, o', _, _, _, _, g1, _, g3⟩ := insOf_inv hp
              rw [g3]
              refine hall' _ ?_
              have : k < ops.toList.length := by
                rcases Nat.lt_or_ge k ops.toList.length with h' | h'
                · exact h'
                · rw [List.getElem?_eq_none h'] at g1; cases g1
              simpa using this
            rw [hfull] at hps
            obtain ⟨l', g1, g2⟩ := reps_perm hps hl
            obtain ⟨hr', hx⟩ := hr0.add hfree ⟨some b, .map (some b)⟩ (.mapC (flatP (insOf ops.toList (ancs ops.toList) st.slots tr ops.toList 0))) hi.fr
              ⟨b, arr, clock, l', rfl, hb, g2, g1.symm.trans hlp, (g1.map _).nodup_iff.1 hnd⟩ (fun b' hb' => by cases hb'; exact hb0)
            have hext : Ext I E st.res w I E st.res w.drew := Ext.grow hf
            refine hQ a' w' I _ (hext.trans hx) ⟨hr', S.fin hi.size hi.slots (fun i hi' => hall' i (by simpa using hi')), fun r hr => ?_, hi.nodefer⟩ hi.keeps ⟨fun r hr => Env.put_ne E _ (by omega), by rw [lenR_new]; omega⟩
            have hr : lenR (setR st.res (lenR st.res) (.mapC (flatP (insOf ops.toList (ancs ops.toList) st.slots tr ops.toList 0)))) ≤ r := hr
            rw [lenR_new] at hr
            rw [Env.put_ne E _ (by omega)]
            exact h.free r (by omega)
          have hstart : ∃ E', InvM c ops.toList st tr I E a w.drew (fun i => (Array.replicate ops.size false).getD i false) a w.drew E' := by
            refine ⟨E, ?_⟩
            have hno : (fun i => (Array.replicate ops.size false).getD i false) = fun _ => false := by
              funext i
              simp only [Array.getD_eq_getD_getElem?, Array.getElem?_replicate]
              split <;> rfl
            rw [hno]
            have hslots : SlotsOk c I w.drew E st.slots a := Reps.mono h.slots (fun _ h => h) (fun _ _ => rfl) (Env.le_refl _)
            refine ⟨Fr.refl _ _, fun t => ?_, (Reps.len h.slots).symm, h.nodefer, ⟨rfl, fun _ _ => rfl⟩, fun i j hj => (by cases hj), fun _ => ⟨rfl, fun _ _ => rfl⟩, fun h0 => (by cases h0)⟩
            have hslot : slotF ops.toList tr st.slots (fun _ => false) t = nth st.slots t := by
              unfold slotF
              split <;> simp
            rw [hslot]
            have := hslots.getD t undef
            simpa [Array.getD_eq_getD_getElem?, List.getD_eq_getElem?_getD] using this
          exact wp_region_any c.mixed (wpAny_gen (Inv := fun s a' w' => ∃ E', InvM c ops.toList st tr I E a w.drew s a' w' E') S.edges (fun s a' w' hi => hi.choose_spec.closed)
            (fun s a' w' j o hi hj hns hanc => by obtain ⟨E', hi⟩ := hi; exact step_m hr0 hfree S hu hop0 facts okIns hap hi hj hns hanc) hfin ops.size _ a w.drew (by simp) (Nat.le_trans (List.length_filter_le _ _) (by simp)) hstart)
        · exact ho.elim
      · exact ho.elim
    · exact ho.elim
  · exact ho.elim
end dyn
end Go.Ax
