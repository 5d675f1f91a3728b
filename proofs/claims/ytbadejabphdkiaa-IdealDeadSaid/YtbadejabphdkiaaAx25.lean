/- A verified symbolic executor, part 25: contracts whose result is told up to the names of its vectors. Over any program; no condition. -/
import Derived.Test.YtbadejabphdkiaaAx24
set_option linter.unusedVariables false
set_option linter.unusedSimpArgs false
namespace Go.Ax
variable {El : TypeId → Type}

mutual
/-- The names that stand where a told value has its vectors. -/
def nmA : AVal El → AVal El → List (Option Nat)
  | .vec _, a => [nameA a]
  | .agg bs, a => match a with
    | .agg as => nmL bs as
    | _ => []
  | .tup bs, a => match a with
    | .tup as => nmL bs as
    | _ => []
  | _, _ => []
def nmL : List (AVal El) → List (AVal El) → List (Option Nat)
  | b :: bs, a :: as => appO (nmA b a) (nmL bs as)
  | _, _ => []
def appO : List (Option Nat) → List (Option Nat) → List (Option Nat)
  | [], l => l
  | a :: k, l => a :: appO k l
end

def okEnd (R : List (Res El)) (y val : AVal El) (rs : List (Res El)) (nm : List (Option Nat)) : Bool :=
  refsB (lenR rs) val && refsR (lenR rs) rs && nodupN (liveN (nthO nm) 0 rs) && apartN (liveN (nthO nm) 0 rs) (appM (fz0 val y) (fzR R (nthO nm) 0 rs))
/-- What a function hands back is as told. -/
def endFit (R : List (Res El)) (y val : AVal El) (rs : List (Res El)) : Prop :=
  fit0 R (nthO (nmA val y)) val y ∧ fitRs R (nthO (nmA val y)) 0 0 rs ∧ tt (okEnd R y val rs (nmA val y))

section
variable {c : Cx El}

theorem back_end {I0 I1 : Nat → Prop} {E E1 : Env} {w w' : World} {R1 rs : List (Res El)} {y val : AVal El} {v : Value} (hb : Back c I0 (E.cut 0) [] w y R1 v w' I1 E1) (hf : endFit R1 y val rs) :
    ∃ J E2, Back c I0 (E.cut 0) [] w val rs v w' J E2 := by
  obtain ⟨m1, m2, m3⟩ := hf
  have m3 := of_tt m3
  generalize hnm : nmA val y = nm at m1 m2 m3
  unfold okEnd at m3
  simp only [Bool.and_eq_true] at m3
  obtain ⟨⟨⟨m3, m4⟩, m6⟩, m7⟩ := m3
  have m6 := nodupN_iff m6
  have m7 := apartN_iff m7
  generalize hfz : appM (fz0 val y) (fzR R1 (nthO nm) 0 rs) = fz at m7
  let J : Nat → Prop := fun k => I1 k ∨ ∃ r ∈ fz, getR R1 r ≠ .dead ∧ ∃ e, E1 r = some e ∧ e.blk = some k
  let E2 : Env := fun q => match Nat.blt q (lenR rs) with
    | true => match nthO nm q with
      | some r => E1 r
      | none => some ⟨none, .slice none 0 0⟩
    | false => none
  have hE2 : ∀ q, q < lenR rs → E2 q = match nthO nm q with | some r => E1 r | none => some ⟨none, .slice none 0 0⟩ := fun q hq => by
    show (match Nat.blt q (lenR rs) with | true => _ | false => none) = _
    rw [show Nat.blt q (lenR rs) = true from blt_of hq]
  have hE2n : ∀ q, lenR rs ≤ q → E2 q = none := fun q hq => by
    show (match Nat.blt q (lenR rs) with | true => _ | false => none) = _
    rw [show Nat.blt q (lenR rs) = false from by
      cases hb : Nat.blt q (lenR rs) with
      | false => rfl
      | true => have := lt_of_blt hb; omega]
  have hren : RenOk c.L I1 J w' E1 E2 R1 (nthO nm) (lenR rs) := ⟨hb.hr, fun _ h => .inl h, fun q r hq hs e he => by rw [hE2 q hq, hs]; exact he, fun q hq hs => by rw [hE2 q hq, hs]⟩
  have hfzJ : ∀ r ∈ fz, getR R1 r ≠ .dead → ∀ e k, E1 r = some e → e.blk = some k → J k := fun r hr hd e k he hb => .inr ⟨r, hr, hd, e, he, hb⟩
  have live : ∀ q, getR rs q ≠ .dead → ∃ e, E2 q = some e ∧ HRes c.L J w' E2 e (getR rs q) ∧
      (∀ k, e.blk = some k → ∃ r, nthO nm q = some r ∧ getR R1 r ≠ .dead ∧ E1 r = some e) := by
    intro q hq
    have hlt : q < lenR rs := by
      rcases Nat.lt_or_ge q (lenR rs) with h | h
      · exact h
      · exact absurd (getR_ge h) hq
    have hf := fitRs_at m2 hq
    simp only [Nat.zero_add] at hf
    cases hw : nthO nm q with
    | none =>
      obtain ⟨t, ht⟩ := hf.2 hw
      refine ⟨⟨none, .slice none 0 0⟩, by rw [hE2 q hlt, hw], ?_, fun k hk => by cases hk⟩
      rw [ht]; exact .inl ⟨rfl, rfl, none, rfl⟩
    | some r =>
      have h1 := hf.1 r hw
      cases hx : getR rs q with
      | dead => exact absurd hx hq
      | vec t xs =>
        rw [hx] at h1
        simp only [fitR] at h1
        obtain ⟨e, g1, g2⟩ := hb.hr.res r (by rw [h1]; simp)
        rw [h1] at g2
        exact ⟨e, by rw [hE2 q hlt, hw]; exact g1, g2, fun k _ => ⟨r, rfl, by rw [h1]; simp, g1⟩⟩
      | mapS kk t m =>
        rw [hx] at h1
        simp only [fitR] at h1
        obtain ⟨e, g1, g2⟩ := hb.hr.res r (by rw [h1]; simp)
        rw [h1] at g2
        obtain ⟨blk, arr, clock, k1, k2, k3⟩ := g2
        exact ⟨e, by rw [hE2 q hlt, hw]; exact g1, ⟨blk, arr, clock, k1, k2, k3.mono⟩, fun k _ => ⟨r, rfl, by rw [h1]; simp, g1⟩⟩
      | mapC bs =>
        rw [hx] at h1
        have hrefs := refsR_atC m4 hx
        simp only [fitR] at h1
        split at h1
        · rename_i hp
          obtain ⟨e, g1, g2⟩ := hb.hr.res r (by rw [h1]; simp)
          rw [h1] at g2
          obtain ⟨blk, arr, clock, l, k1, k2, k3, k4⟩ := g2
          exact ⟨e, by rw [hE2 q hlt, hw]; exact g1, ⟨blk, arr, clock, l, k1, k2, sameL_ok hren (Nat.zero_le _) (fun q hq => absurd hq (by omega)) hp k3, k4⟩, fun k _ => ⟨r, rfl, by rw [h1]; simp, g1⟩⟩
        · exact h1.elim
      | cells t bs =>
        rw [hx] at h1
        have hrefs := refsR_at m4 hx
        simp only [fitR] at h1
        split at h1
        · rename_i hp
          obtain ⟨e, g1, g2⟩ := hb.hr.res r (by rw [h1]; simp)
          rw [h1] at g2
          obtain ⟨blk, vs, k1, k2, k3, k4⟩ := g2
          exact ⟨e, by rw [hE2 q hlt, hw]; exact g1, ⟨blk, vs, k1, k2, sameL_ok hren (Nat.zero_le _) (fun q hq => absurd hq (by omega)) hp k3, k4⟩, fun k _ => ⟨r, rfl, by rw [h1]; simp, g1⟩⟩
        · split at h1
          · rename_i t' as hg
            obtain ⟨h2, h3⟩ := h1
            have := Nat.eq_of_beq_eq_true (of_tt h2); subst this
            obtain ⟨e, g1, g2⟩ := hb.hr.res r (by rw [hg]; simp)
            rw [hg] at g2
            obtain ⟨blk, vs, k1, k2, k3, k4⟩ := g2
            refine ⟨e, by rw [hE2 q hlt, hw]; exact g1, ⟨blk, vs, k1, k2, fitL_ok hren bs as vs h3 hrefs (fun f hf' => hfzJ f ?_) k3, k4⟩, fun k _ => ⟨r, rfl, by rw [hg]; simp, g1⟩⟩
            rw [← hfz, appM_eq]
            exact List.mem_append.2 (.inr (fzR_at hx (by rw [Nat.zero_add]; exact hw) hg hf'))
          · exact h1.elim
  have own : ∀ k, Own E2 rs k → ∃ q r e, getR rs q ≠ .dead ∧ nthO nm q = some r ∧ getR R1 r ≠ .dead ∧ E1 r = some e ∧ e.blk = some k := by
    rintro k ⟨q, e, g1, g2, g3⟩
    obtain ⟨e', k1, _, k3⟩ := live q g1
    rw [g2] at k1; cases k1
    obtain ⟨r, l1, l2, l3⟩ := k3 k g3
    exact ⟨q, r, e, g1, l1, l2, l3, g3⟩
  refine ⟨J, E2, ⟨⟨fun k hk => .inl (hb.ext.imm k hk), fun r e he => ?_, hb.ext.fr, fun k hk => ?_, fun k hk => ?_⟩, ⟨fun q hq => ?_, fun q q' e e' k h1 h2 h3 h4 h5 h6 => ?_, fun k hk hJ => ?_, fun k hk => ?_⟩, ?_, fun r hr => absurd hr (by simp [lenR]), Nat.zero_le _, fun r hr => hE2n r hr⟩⟩
  · unfold Env.cut at he
    split at he
    · omega
    · cases he
  · rcases hk with hk | ⟨r, _, h1, e, h2, h3⟩
    · exact hb.ext.immOld k hk
    · exact .inr (hb.ext.ownOld k ⟨r, e, h1, h2, h3⟩)
  · obtain ⟨q, r, e, _, _, h2, h3, h4⟩ := own k hk
    exact hb.ext.ownOld k ⟨r, e, h2, h3, h4⟩
  · obtain ⟨e, k1, k2, _⟩ := live q hq
    exact ⟨e, k1, k2⟩
  · obtain ⟨e1, k1, _, k3⟩ := live q h1
    obtain ⟨e2, l1, _, l3⟩ := live q' h2
    rw [h3] at k1; cases k1
    rw [h4] at l1; cases l1
    obtain ⟨r, p1, p2, p3⟩ := k3 k h5
    obtain ⟨r', p4, p5, p6⟩ := l3 k h6
    have := hb.hr.apart r r' e e' k p2 p5 p3 p6 h5 h6
    subst this
    exact liveN_inj m6 h1 h2 (by rw [Nat.zero_add]; exact p1) (by rw [Nat.zero_add]; exact p4)
  · obtain ⟨q, r, e, g1, g2, g3, g4, g5⟩ := own k hk
    rcases hJ with hJ | ⟨r', f1, f2, e', f3, f4⟩
    · exact hb.hr.notI k ⟨r, e, g3, g4, g5⟩ hJ
    · have := hb.hr.apart r r' e e' k g3 f2 g4 f3 g5 f4
      subst this
      exact m7 r f1 (mem_liveN.2 ⟨q, g1, by rw [Nat.zero_add]; exact g2⟩)
  · rcases hk with hk | ⟨r, _, h1, e, h2, h3⟩
    · exact hb.hr.old k hk
    · exact hb.hr.own_lt ⟨r, e, h1, h2, h3⟩
  · refine fit0_ok hren val y v m1 m3 (fun f hf' => hfzJ f ?_) hb.rep
    rw [← hfz, appM_eq]
    exact List.mem_append.2 (.inl hf')

theorem matchR_self (R : List (Res El)) : matchR R R := by
  induction R with
  | nil => trivial
  | cons x R ih => exact ⟨rfl, ih⟩

/-- A contract holds: it was shown of the function's own text, up to the names of what comes back. -/
theorem ctr_fit {Γ : FuncId → Option (GSpec El)} (hΓ : ∀ f g, Γ f = some g → GOk c f g) {f : FuncId} {fn : Func} {code : Code} (hfn : c.P.funcs[f]? = some fn) (hb : fn.body = some code)
    (henter : ∀ args w, (callFunc f args).run c.P w = .ok (.enter f args) w) {s : Told El}
    (h : ∀ args y, s args = some y → ReadsAs args y.args ∧ (y.pre → ∃ spec n, aexecF cnd c Γ spec n fn code y.args [] (fun x R => endFit R x y.val y.res))) :
    GOk c f (ctr s) := by
  refine ⟨henter, fun args R base y ho I E w vals hargs hr hfree => ?_⟩
  unfold ctr at ho
  split at ho
  · exact ho.elim
  rename_i z hs
  split at ho
  · rename_i hg
    obtain ⟨hp, ho⟩ := ho
    simp only [Tree.Out] at ho; subst ho
    simp only [Bool.and_eq_true, Bool.or_eq_true, decide_eq_true_eq] at hg
    obtain ⟨⟨⟨g1, g2⟩, g3⟩, g4⟩ := hg
    obtain ⟨I0, k1, k2, k3, k4⟩ := lend_ok hr hargs
    obtain ⟨r1, r2⟩ := h _ _ hs
    have hr0 : HR c.L I0 w (E.cut 0) [] := ⟨fun r h => absurd rfl h, fun r _ _ _ _ h => absurd rfl h, fun b ⟨r, e, h1, _⟩ => absurd rfl h1, k2⟩
    obtain ⟨spec, n, r2⟩ := r2 hp
    refine Calls.mono (aexecF_ok hΓ hfn hb r2 ((r1 _ _ _ _ _ k4).cutE g1) hr0 (fun r _ => by unfold Env.cut; rw [if_neg (by omega)])) ?_
    rintro e w' ⟨v, x', R', I1, E1, rfl, hend, hback⟩
    obtain ⟨J, E2, hback2⟩ := back_end hback hend
    obtain ⟨I', E', hp'⟩ := back_new hr k1 hback2 (matchR_self _) g2 g3 (g4.imp k3 id) hfree
    exact ⟨v, I', E', rfl, hp'⟩
  · exact ho.elim

/-- The same over plain data. -/
theorem tell_fit {Γ : FuncId → Option (GSpec El)} (hΓ : ∀ f g, Γ f = some g → GOk c f g) {f : FuncId} {fn : Func} {code : Code} (hfn : c.P.funcs[f]? = some fn) (hb : fn.body = some code)
    (henter : ∀ args w, (callFunc f args).run c.P w = .ok (.enter f args) w) {α : Type} {d : Cd El α} {t : α → Prop × AVal El × List (Res El)}
    (h : ∀ x, (t x).1 → ∃ spec n, aexecF cnd c Γ spec n fn code (d.enc x) [] (fun y R => endFit R y (t x).2.1 (t x).2.2)) : GOk c f (ctr (tell d t)) :=
  ctr_fit hΓ hfn hb henter (fun args y hy => tell_ok (Φ := fun y => y.pre → ∃ spec n, aexecF cnd c Γ spec n fn code y.args [] (fun x R => endFit R x y.val y.res)) h hy)
end
end Go.Ax
