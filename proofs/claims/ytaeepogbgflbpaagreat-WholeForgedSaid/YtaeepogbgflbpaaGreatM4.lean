/- Parts of the proof, in one file: further parts. No condition. -/
import Derived.Test.YtaeepogbgflbpaaGreatM3
import Derived.WalkKit
import Derived.ProofKit
import Derived.OpenShut
import Derived.ShutString
import Derived.ChangeOld
import Derived.Below
import Derived.SizedLaws
import Derived.Carry

/- A verified symbolic executor, part 25: contracts whose result is told up to the names of its vectors. Over any program; no condition. -/
section
set_option linter.unusedVariables false
set_option linter.unusedSimpArgs false
namespace Go.Ax
variable {El : TypeId → Type}

mutual
/-- The names that stand where a told value has its vectors. -/
def nmA : AVal El → AVal El → List (Option Nat)
  | .vec _, a => [nameA a]
  | .agg bs, a => match a with
    | .agg as => nmL bs as
    | _ => []
  | .tup bs, a => match a with
    | .tup as => nmL bs as
    | _ => []
  | _, _ => []
def nmL : List (AVal El) → List (AVal El) → List (Option Nat)
  | b :: bs, a :: as => appO (nmA b a) (nmL bs as)
  | _, _ => []
def appO : List (Option Nat) → List (Option Nat) → List (Option Nat)
  | [], l => l
  | a :: k, l => a :: appO k l
end

def okEnd (R : List (Res El)) (y val : AVal El) (rs : List (Res El)) (nm : List (Option Nat)) : Bool :=
  refsB (lenR rs) val && refsR (lenR rs) rs && nodupN (liveN (nthO nm) 0 rs) && apartN (liveN (nthO nm) 0 rs) (appM (fz0 val y) (fzR R (nthO nm) 0 rs))
/-- What a function hands back is as told. -/
def endFit (R : List (Res El)) (y val : AVal El) (rs : List (Res El)) : Prop :=
  fit0 R (nthO (nmA val y)) val y ∧ fitRs R (nthO (nmA val y)) 0 0 rs ∧ tt (okEnd R y val rs (nmA val y))

section
variable {c : Cx El}

theorem back_end {I0 I1 : Nat → Prop} {E E1 : Env} {w w' : World} {R1 rs : List (Res El)} {y val : AVal El} {v : Value} (hb : Back c I0 (E.cut 0) [] w y R1 v w' I1 E1) (hf : endFit R1 y val rs) :
    ∃ J E2, Back c I0 (E.cut 0) [] w val rs v w' J E2 := by
  obtain ⟨m1, m2, m3⟩ := hf
  have m3 := of_tt m3
  generalize hnm : nmA val y = nm at m1 m2 m3
  unfold okEnd at m3
  simp only [Bool.and_eq_true] at m3
  obtain ⟨⟨⟨m3, m4⟩, m6⟩, m7⟩ := m3
  have m6 := nodupN_iff m6
  have m7 := apartN_iff m7
  generalize hfz : appM (fz0 val y) (fzR R1 (nthO nm) 0 rs) = fz at m7
  let J : Nat → Prop := fun k => I1 k ∨ ∃ r ∈ fz, getR R1 r ≠ .dead ∧ ∃ e, E1 r = some e ∧ e.blk = some k
  let E2 : Env := fun q => match Nat.blt q (lenR rs) with
    | true => match nthO nm q with
      | some r => E1 r
      | none => some ⟨none, .slice none 0 0⟩
    | false => none
  have hE2 : ∀ q, q < lenR rs → E2 q = match nthO nm q with | some r => E1 r | none => some ⟨none, .slice none 0 0⟩ := fun q hq => by
    show (match Nat.blt q (lenR rs) with | true => _ | false => none) = _
    rw [show Nat.blt q (lenR rs) = true from blt_of hq]
  have hE2n : ∀ q, lenR rs ≤ q → E2 q = none := fun q hq => by
    show (match Nat.blt q (lenR rs) with | true => _ | false => none) = _
    rw [show Nat.blt q (lenR rs) = false from by
      cases hb : Nat.blt q (lenR rs) with
      | false => rfl
      | true => have := lt_of_blt hb; omega]
  have hren : RenOk c.L I1 J w' E1 E2 R1 (nthO nm) (lenR rs) := ⟨hb.hr, fun _ h => .inl h, fun q r hq hs e he => by rw [hE2 q hq, hs]; exact he, fun q hq hs => by rw [hE2 q hq, hs]⟩
  have hfzJ : ∀ r ∈ fz, getR R1 r ≠ .dead → ∀ e k, E1 r = some e → e.blk = some k → J k := fun r hr hd e k he hb => .inr ⟨r, hr, hd, e, he, hb⟩
  have live : ∀ q, getR rs q ≠ .dead → ∃ e, E2 q = some e ∧ HRes c.L J w' E2 e (getR rs q) ∧
      (∀ k, e.blk = some k → ∃ r, nthO nm q = some r ∧ getR R1 r ≠ .dead ∧ E1 r = some e) := by
    intro q hq
    have hlt : q < lenR rs := by
      rcases Nat.lt_or_ge q (lenR rs) with h | h
      · exact h
      · exact absurd (getR_ge h) hq
    have hf := fitRs_at m2 hq
    simp only [Nat.zero_add] at hf
    cases hw : nthO nm q with
    | none =>
      obtain ⟨t, ht⟩ := hf.2 hw
      refine ⟨⟨none, .slice none 0 0⟩, by rw [hE2 q hlt, hw], ?_, fun k hk => by cases hk⟩
      rw [ht]; exact .inl ⟨rfl, rfl, none, rfl⟩
    | some r =>
      have h1 := hf.1 r hw
      cases hx : getR rs q with
      | dead => exact absurd hx hq
      | vec t xs =>
        rw [hx] at h1
        simp only [fitR] at h1
        obtain ⟨e, g1, g2⟩ := hb.hr.res r (by rw [h1]; simp)
        rw [h1] at g2
        refine ⟨e, by rw [hE2 q hlt, hw]; exact g1, ?_, fun k _ => ⟨r, rfl, by rw [h1]; simp, g1⟩⟩
        rcases g2 with g2 | ⟨b, cap, cells, vals, k1, k2, k3, k4, k5, k6, k7⟩
        · exact .inl g2
        · exact .inr ⟨b, cap, cells, vals, k1, k2, k3, k4, k5, k6, fun i x hx j a ha => (k7 i x hx j a ha).mono (fun _ h => .inl h) (fun _ _ => rfl) (Env.le_refl _)⟩
      | recs t xs kk bs =>
        rw [hx] at h1
        have hrefs := refsR_atN m4 hx
        simp only [fitR] at h1
        split at h1
        · rename_i t' ys k' as hg
          obtain ⟨h2, h3⟩ := h1
          cases h2
          obtain ⟨e, g1, g2⟩ := hb.hr.res r (by rw [hg]; simp)
          rw [hg] at g2
          obtain ⟨b, cap, cells, vals, k1, k2, k3, k4, k5, k6, k7, ts, k8, k9⟩ := g2
          refine ⟨e, by rw [hE2 q hlt, hw]; exact g1, ⟨b, cap, cells, vals, k1, k2, k3, k4, k5, k6, fun i x hx j a ha hne => (k7 i x hx j a ha hne).mono (fun _ h => .inl h) (fun _ _ => rfl) (Env.le_refl _), ts, ?_, k9⟩, fun k _ => ⟨r, rfl, by rw [hg]; simp, g1⟩⟩
          split at h3
          · rename_i hp
            subst h3
            exact sameL_ok hren (Nat.zero_le _) (fun q hq => absurd hq (by omega)) hp k8
          · refine fitL_ok hren bs as ts h3 hrefs (fun f hf' => hfzJ f ?_) k8
            rw [← hfz, appM_eq]
            exact List.mem_append.2 (.inr (fzR_atN hx (by rw [Nat.zero_add]; exact hw) hg hf'))
        · exact h1.elim
      | mapS kk t m =>
        rw [hx] at h1
        simp only [fitR] at h1
        obtain ⟨e, g1, g2⟩ := hb.hr.res r (by rw [h1]; simp)
        rw [h1] at g2
        obtain ⟨blk, arr, clock, k1, k2, k3⟩ := g2
        exact ⟨e, by rw [hE2 q hlt, hw]; exact g1, ⟨blk, arr, clock, k1, k2, k3.mono⟩, fun k _ => ⟨r, rfl, by rw [h1]; simp, g1⟩⟩
      | mapC bs =>
        rw [hx] at h1
        have hrefs := refsR_atC m4 hx
        simp only [fitR] at h1
        split at h1
        · rename_i hp
          obtain ⟨e, g1, g2⟩ := hb.hr.res r (by rw [h1]; simp)
          rw [h1] at g2
          obtain ⟨blk, arr, clock, l, k1, k2, k3, k4⟩ := g2
          exact ⟨e, by rw [hE2 q hlt, hw]; exact g1, ⟨blk, arr, clock, l, k1, k2, sameL_ok hren (Nat.zero_le _) (fun q hq => absurd hq (by omega)) hp k3, k4⟩, fun k _ => ⟨r, rfl, by rw [h1]; simp, g1⟩⟩
        · exact h1.elim
      | cells t bs =>
        rw [hx] at h1
        have hrefs := refsR_at m4 hx
        simp only [fitR] at h1
        split at h1
        · rename_i hp
          obtain ⟨e, g1, g2⟩ := hb.hr.res r (by rw [h1]; simp)
          rw [h1] at g2
          obtain ⟨blk, vs, k1, k2, k3, k4⟩ := g2
          exact ⟨e, by rw [hE2 q hlt, hw]; exact g1, ⟨blk, vs, k1, k2, sameL_ok hren (Nat.zero_le _) (fun q hq => absurd hq (by omega)) hp k3, k4⟩, fun k _ => ⟨r, rfl, by rw [h1]; simp, g1⟩⟩
        · split at h1
          · rename_i t' as hg
            obtain ⟨h2, h3⟩ := h1
            have := Nat.eq_of_beq_eq_true (of_tt h2); subst this
            obtain ⟨e, g1, g2⟩ := hb.hr.res r (by rw [hg]; simp)
            rw [hg] at g2
            obtain ⟨blk, vs, k1, k2, k3, k4⟩ := g2
            refine ⟨e, by rw [hE2 q hlt, hw]; exact g1, ⟨blk, vs, k1, k2, fitL_ok hren bs as vs h3 hrefs (fun f hf' => hfzJ f ?_) k3, k4⟩, fun k _ => ⟨r, rfl, by rw [hg]; simp, g1⟩⟩
            rw [← hfz, appM_eq]
            exact List.mem_append.2 (.inr (fzR_at hx (by rw [Nat.zero_add]; exact hw) hg hf'))
          · exact h1.elim
  have own : ∀ k, Own E2 rs k → ∃ q r e, getR rs q ≠ .dead ∧ nthO nm q = some r ∧ getR R1 r ≠ .dead ∧ E1 r = some e ∧ e.blk = some k := by
    rintro k ⟨q, e, g1, g2, g3⟩
    obtain ⟨e', k1, _, k3⟩ := live q g1
    rw [g2] at k1; cases k1
    obtain ⟨r, l1, l2, l3⟩ := k3 k g3
    exact ⟨q, r, e, g1, l1, l2, l3, g3⟩
  refine ⟨J, E2, ⟨⟨fun k hk => .inl (hb.ext.imm k hk), fun r e he => ?_, hb.ext.fr, fun k hk => ?_, fun k hk => ?_⟩, ⟨fun q hq => ?_, fun q q' e e' k h1 h2 h3 h4 h5 h6 => ?_, fun k hk hJ => ?_, fun k hk => ?_⟩, ?_, fun r hr => absurd hr (by simp [lenR]), Nat.zero_le _, fun r hr => hE2n r hr⟩⟩
  · unfold Env.cut at he
    split at he
    · omega
    · cases he
  · rcases hk with hk | ⟨r, _, h1, e, h2, h3⟩
    · exact hb.ext.immOld k hk
    · exact .inr (hb.ext.ownOld k ⟨r, e, h1, h2, h3⟩)
  · obtain ⟨q, r, e, _, _, h2, h3, h4⟩ := own k hk
    exact hb.ext.ownOld k ⟨r, e, h2, h3, h4⟩
  · obtain ⟨e, k1, k2, _⟩ := live q hq
    exact ⟨e, k1, k2⟩
  · obtain ⟨e1, k1, _, k3⟩ := live q h1
    obtain ⟨e2, l1, _, l3⟩ := live q' h2
    rw [h3] at k1; cases k1
    rw [h4] at l1; cases l1
    obtain ⟨r, p1, p2, p3⟩ := k3 k h5
    obtain ⟨r', p4, p5, p6⟩ := l3 k h6
    have := hb.hr.apart r r' e e' k p2 p5 p3 p6 h5 h6
    subst this
    exact liveN_inj m6 h1 h2 (by rw [Nat.zero_add]; exact p1) (by rw [Nat.zero_add]; exact p4)
  · obtain ⟨q, r, e, g1, g2, g3, g4, g5⟩ := own k hk
    rcases hJ with hJ | ⟨r', f1, f2, e', f3, f4⟩
    · exact hb.hr.notI k ⟨r, e, g3, g4, g5⟩ hJ
    · have := hb.hr.apart r r' e e' k g3 f2 g4 f3 g5 f4
      subst this
      exact m7 r f1 (mem_liveN.2 ⟨q, g1, by rw [Nat.zero_add]; exact g2⟩)
  · rcases hk with hk | ⟨r, _, h1, e, h2, h3⟩
    · exact hb.hr.old k hk
    · exact hb.hr.own_lt ⟨r, e, h1, h2, h3⟩
  · refine fit0_ok hren val y v m1 m3 (fun f hf' => hfzJ f ?_) hb.rep
    rw [← hfz, appM_eq]
    exact List.mem_append.2 (.inl hf')

theorem matchR_self (R : List (Res El)) : matchR R R := by
  induction R with
  | nil => trivial
  | cons x R ih => exact ⟨rfl, ih⟩

/-- A contract holds: it was shown of the function's own text, up to the names of what comes back. -/
theorem ctr_fit {Γ : FuncId → Option (GSpec El)} (hΓ : ∀ f g, Γ f = some g → GOk c f g) {f : FuncId} {fn : Func} {code : Code} (hfn : c.P.funcs[f]? = some fn) (hb : fn.body = some code)
    (henter : ∀ args w, (callFunc f args).run c.P w = .ok (.enter f args) w) {s : Told El}
    (h : ∀ args y, s args = some y → ReadsAs args y.args ∧ (y.pre → ∃ spec n, aexecF cnd c Γ spec n fn code y.args [] (fun x R => endFit R x y.val y.res))) :
    GOk c f (ctr c s) := by
  refine ⟨henter, fun args R base y ho I E w vals hargs hr hfree => ?_⟩
  unfold ctr at ho
  split at ho
  · exact ho.elim
  rename_i z hs
  split at ho
  · rename_i hg
    obtain ⟨hp, ho⟩ := ho
    simp only [Tree.Out] at ho; subst ho
    simp only [Bool.and_eq_true, Bool.or_eq_true, decide_eq_true_eq] at hg
    obtain ⟨⟨⟨g1, g2⟩, g3⟩, g4⟩ := hg
    obtain ⟨I0, k1, k2, k3, k4⟩ := lend_ok hr hargs
    obtain ⟨r1, r2⟩ := h _ _ hs
    have hr0 : HR c.L I0 w (E.cut 0) [] := ⟨fun r h => absurd rfl h, fun r _ _ _ _ h => absurd rfl h, fun b ⟨r, e, h1, _⟩ => absurd rfl h1, k2⟩
    obtain ⟨spec, n, r2⟩ := r2 hp
    refine Calls.mono (aexecF_ok hΓ hfn hb r2 ((r1 _ _ _ _ _ k4).cutE g1) hr0 (fun r _ => by unfold Env.cut; rw [if_neg (by omega)])) ?_
    rintro e w' ⟨v, x', R', I1, E1, rfl, hend, hback⟩
    obtain ⟨J, E2, hback2⟩ := back_end hback hend
    obtain ⟨I', E', hp'⟩ := back_new hr k1 hback2 (fun _ _ => rfl) g2 g3 (g4.imp k3 id) hfree
    exact ⟨v, I', E', rfl, hp'⟩
  · exact ho.elim

/-- The same over plain data. -/
theorem tell_fit {Γ : FuncId → Option (GSpec El)} (hΓ : ∀ f g, Γ f = some g → GOk c f g) {f : FuncId} {fn : Func} {code : Code} (hfn : c.P.funcs[f]? = some fn) (hb : fn.body = some code)
    (henter : ∀ args w, (callFunc f args).run c.P w = .ok (.enter f args) w) {α : Type} {d : Cd El α} {t : α → Prop × AVal El × List (Res El)}
    (h : ∀ x, (t x).1 → ∃ spec n, aexecF cnd c Γ spec n fn code (d.enc x) [] (fun y R => endFit R y (t x).2.1 (t x).2.2)) : GOk c f (ctr c (tell d t)) :=
  ctr_fit hΓ hfn hb henter (fun args y hy => tell_ok (Φ := fun y => y.pre → ∃ spec n, aexecF cnd c Γ spec n fn code y.args [] (fun x R => endFit R x y.val y.res)) h hy)
end
end Go.Ax
end

/- A verified symbolic executor, part 29: contracts of functions that are given a graph of resources by a pointer: the graph is read as data, turned, and handed back. Over any program; no condition. -/
section
set_option linter.unusedVariables false
set_option linter.unusedSimpArgs false
namespace Go.Ax
variable {El : TypeId → Type}
mutual
/-- All names, turned. -/
def mapN (f : Nat → Nat) : AVal El → AVal El
  | .ptr r o => .ptr (f r) o
  | .eptr r s i o => .eptr (f r) s i o
  | .cs r o m => .cs (f r) o m
  | .vec r => .vec (f r)
  | .mapr r => .mapr (f r)
  | .fn g l => .fn g (mapNL f l)
  | .agg l => .agg (mapNL f l)
  | .tup l => .tup (mapNL f l)
  | a => a
def mapNL (f : Nat → Nat) : List (AVal El) → List (AVal El)
  | [] => []
  | a :: l => mapN f a :: mapNL f l
end
mutual
/-- All names, asked. -/
def allB (p : Nat → Bool) : AVal El → Bool
  | .ptr r _ => p r
  | .eptr r _ _ _ => p r
  | .cs r _ _ => p r
  | .vec r => p r
  | .mapr r => p r
  | .fn _ l => allBL p l
  | .agg l => allBL p l
  | .tup l => allBL p l
  | _ => true
def allBL (p : Nat → Bool) : List (AVal El) → Bool
  | [] => true
  | a :: l => allB p a && allBL p l
end
def mapNR (f : Nat → Nat) : Res El → Res El
  | .cells t cs => .cells t (mapNL f cs)
  | .mapC cs => .mapC (mapNL f cs)
  | .recs t xs k nm => .recs t xs k (mapNL f nm)
  | x => x
def allBR (p : Nat → Bool) : Res El → Bool
  | .cells _ cs => allBL p cs
  | .mapC cs => allBL p cs
  | .recs _ _ _ nm => allBL p nm
  | _ => true
theorem mapNL_eq (f : Nat → Nat) (l : List (AVal El)) : mapNL f l = l.map (mapN f) := by
  induction l with
  | nil => rfl
  | cons a l ih => simp [mapNL, ih]
theorem allBL_at {p : Nat → Bool} {l : List (AVal El)} (h : allBL p l = true) {i : Nat} {a : AVal El} (ha : l[i]? = some a) : allB p a = true := by
  induction l generalizing i with
  | nil => simp at ha
  | cons b l ih =>
    simp only [allBL, Bool.and_eq_true] at h
    cases i with
    | zero => simp at ha; subst ha; exact h.1
    | succ i => exact ih h.2 (by simpa using ha)
theorem headTup_mapN (f : Nat → Nat) (l : List (AVal El)) : headTup (mapNL f l) = headTup l := by
  cases l with
  | nil => rfl
  | cons a l => cases a <;> rfl
mutual
theorem refs_allB {n : Nat} {f : Nat → Nat} : ∀ a : AVal El, refsB n (mapN f a) = allB (fun r => decide (f r < n)) a
  | .ptr _ _ => rfl
  | .eptr _ _ _ _ => rfl
  | .cs _ _ _ => rfl
  | .vec _ => rfl
  | .mapr _ => rfl
  | .fn _ l => refs_allBL l
  | .agg l => refs_allBL l
  | .tup l => refs_allBL l
  | .top => rfl
  | .bool _ => rfl
  | .int _ _ => rfl
  | .str _ => rfl
  | .nilp => rfl
  | .nilf => rfl
  | .nilm => rfl
  | .nils => rfl
  | .anyb => rfl
  | .lptr _ _ _ _ _ => rfl
  | .list _ _ => rfl
theorem refs_allBL {n : Nat} {f : Nat → Nat} : ∀ l : List (AVal El), refsL n (mapNL f l) = allBL (fun r => decide (f r < n)) l
  | [] => rfl
  | a :: l => by simp only [mapNL, refsL, allBL]; rw [refs_allB a, refs_allBL l]
end
mutual
theorem refs_allB0 {n : Nat} : ∀ a : AVal El, refsB n a = allB (fun r => decide (r < n)) a
  | .ptr _ _ => rfl
  | .eptr _ _ _ _ => rfl
  | .cs _ _ _ => rfl
  | .vec _ => rfl
  | .mapr _ => rfl
  | .fn _ l => refs_allBL0 l
  | .agg l => refs_allBL0 l
  | .tup l => refs_allBL0 l
  | .top => rfl
  | .bool _ => rfl
  | .int _ _ => rfl
  | .str _ => rfl
  | .nilp => rfl
  | .nilf => rfl
  | .nilm => rfl
  | .nils => rfl
  | .anyb => rfl
  | .lptr _ _ _ _ _ => rfl
  | .list _ _ => rfl
theorem refs_allBL0 {n : Nat} : ∀ l : List (AVal El), refsL n l = allBL (fun r => decide (r < n)) l
  | [] => rfl
  | a :: l => by simp only [refsL, allBL]; rw [refs_allB0 a, refs_allBL0 l]
end
theorem refsR_one {n : Nat} {R : List (Res El)} (h : refsR n R = true) (q : Nat) : allBR (fun r => decide (r < n)) (getR R q) = true := by
  cases hg : getR R q with
  | cells t cs => simp only [allBR]; rw [← refs_allBL0]; exact refsR_at h hg
  | mapC cs => simp only [allBR]; rw [← refs_allBL0]; exact refsR_atC h hg
  | recs t xs k nm => simp only [allBR]; rw [← refs_allBL0]; exact refsR_atN h hg
  | _ => rfl
theorem allBR_map {n : Nat} {f : Nat → Nat} {x : Res El} (h : allBR (fun r => decide (r < n)) (mapNR f x) = true) : allBR (fun r => decide (f r < n)) x = true := by
  cases x with
  | cells t cs => simp only [mapNR, allBR] at h ⊢; rw [← refs_allBL0, refs_allBL] at h; exact h
  | mapC cs => simp only [mapNR, allBR] at h ⊢; rw [← refs_allBL0, refs_allBL] at h; exact h
  | recs t xs k nm => simp only [mapNR, allBR] at h ⊢; rw [← refs_allBL0, refs_allBL] at h; exact h
  | _ => rfl

section
variable {L : Lay El} {I : Nat → Prop} {w : World} {E E' : Env} {p : Nat → Bool} {f : Nat → Nat}
theorem Rep.mapN {a : AVal El} {v : Value} (h : Rep L I w E a v) (ha : allB p a = true) (hE : ∀ r e, p r = true → E r = some e → E' (f r) = some e) : Rep L I w E' (mapN f a) v := by
  induction h generalizing E' with
  | top => exact .top
  | bool => exact .bool
  | int => exact .int
  | str => exact .str
  | nilp => exact .nilp
  | nilf => exact .nilf
  | nilm => exact .nilm
  | nils => exact .nils
  | anyb => exact .anyb
  | ptr h => exact .ptr (hE _ _ ha h)
  | eptr h => exact .eptr (hE _ _ ha h)
  | lptr hi hI hh vals hc hr ih => exact .lptr hi hI hh vals hc hr
  | cs h => exact .cs (hE _ _ ha h)
  | fn ht hn h ih =>
    simp only [allB] at ha
    simp only [Go.Ax.mapN]
    refine .fn (by rw [headTup_mapN]; exact ht) (by rw [mapNL_eq]; simpa using hn) (fun i c v hc hv => ?_)
    rw [mapNL_eq, List.getElem?_map, Option.map_eq_some_iff] at hc
    obtain ⟨c', hc', rfl⟩ := hc
    exact ih i c' v hc' hv (allBL_at ha hc') hE
  | bfn hn h hn' h' ih ih' =>
    simp only [allB, allBL, Bool.and_eq_true] at ha
    simp only [Go.Ax.mapN, mapNL]
    refine .bfn (by rw [mapNL_eq]; simpa using hn) (fun i c v hc hv => ?_) (by rw [mapNL_eq]; simpa using hn') (fun i c v hc hv => ?_)
    · rw [mapNL_eq, List.getElem?_map, Option.map_eq_some_iff] at hc
      obtain ⟨c', hc', rfl⟩ := hc
      exact ih i c' v hc' hv (allBL_at ha.1 hc') hE
    · rw [mapNL_eq, List.getElem?_map, Option.map_eq_some_iff] at hc
      obtain ⟨c', hc', rfl⟩ := hc
      exact ih' i c' v hc' hv (allBL_at ha.2 hc') hE
  | listNil => exact .listNil
  | list hI hh h1 h2 vals hc hr ih => exact .list hI hh h1 h2 vals hc hr
  | vec h h1 => exact .vec (hE _ _ ha h) h1
  | mapr h => exact .mapr (hE _ _ ha h)
  | agg hn h h1 ih =>
    simp only [allB] at ha
    simp only [Go.Ax.mapN]
    refine .agg (by rw [mapNL_eq]; simpa using hn) (fun i c v hc hv => ?_) h1
    rw [mapNL_eq, List.getElem?_map, Option.map_eq_some_iff] at hc
    obtain ⟨c', hc', rfl⟩ := hc
    exact ih i c' v hc' hv (allBL_at ha hc') hE
  | tup hn h ih =>
    simp only [allB] at ha
    simp only [Go.Ax.mapN]
    refine .tup (by rw [mapNL_eq]; simpa using hn) (fun i c v hc hv => ?_)
    rw [mapNL_eq, List.getElem?_map, Option.map_eq_some_iff] at hc
    obtain ⟨c', hc', rfl⟩ := hc
    exact ih i c' v hc' hv (allBL_at ha hc') hE
theorem Reps.mapN {as : List (AVal El)} {vs : List Value} (h : Reps L I w E as vs) (ha : allBL p as = true) (hE : ∀ r e, p r = true → E r = some e → E' (f r) = some e) : Reps L I w E' (mapNL f as) vs := by
  rw [mapNL_eq]
  refine ⟨by simpa using h.len, fun i c v hc hv => ?_⟩
  rw [List.getElem?_map, Option.map_eq_some_iff] at hc
  obtain ⟨c', hc', rfl⟩ := hc
  exact (h.at_ i c' v hc' hv).mapN (allBL_at ha hc') hE
theorem HRes.mapN {e : REnv} {x : Res El} (h : HRes L I w E e x) (ha : allBR p x = true) (hE : ∀ r e, p r = true → E r = some e → E' (f r) = some e) : HRes L I w E' e (mapNR f x) := by
  cases x with
  | dead => trivial
  | cells t cs =>
    obtain ⟨b, vs, h1, h2, h3, h4⟩ := h
    exact ⟨b, vs, h1, h2, h3.mapN ha hE, h4⟩
  | vec t xs => exact h
  | mapS k t m => exact h
  | mapC cs =>
    obtain ⟨b, arr, clock, l, h1, h2, h3, h4⟩ := h
    exact ⟨b, arr, clock, l, h1, h2, h3.mapN ha hE, h4⟩
  | recs t xs k nm =>
    obtain ⟨b, cap, cells, vals, h1, h2, h3, h4, h5, h6, h7, ts, h8, h9⟩ := h
    exact ⟨b, cap, cells, vals, h1, h2, h3, h4, h5, h6, h7, ts, h8.mapN ha hE, h9⟩
end
theorem mapNR_dead {f : Nat → Nat} {x : Res El} (h : mapNR f x ≠ .dead) : x ≠ .dead := by
  rintro rfl; exact h rfl
theorem dead_mapNR {f : Nat → Nat} {x : Res El} (h : x ≠ .dead) : mapNR f x ≠ .dead := by
  cases x <;> simp [mapNR] at h ⊢

mutual
/-- The names of a value, in turn. -/
def nmsA : AVal El → List Nat
  | .ptr r _ => [r]
  | .eptr r _ _ _ => [r]
  | .cs r _ _ => [r]
  | .vec r => [r]
  | .mapr r => [r]
  | .fn _ l => nmsL l
  | .agg l => nmsL l
  | .tup l => nmsL l
  | _ => []
def nmsL : List (AVal El) → List Nat
  | [] => []
  | a :: l => appM (nmsA a) (nmsL l)
end
def nmsR : Res El → List Nat
  | .cells _ cs => nmsL cs
  | .mapC cs => nmsL cs
  | .recs _ _ _ nm => nmsL nm
  | _ => []
/-- The names that are reached, in turn. -/
def walk (R : List (Res El)) : Nat → List Nat → List Nat → List Nat
  | 0, done, _ => done
  | _ + 1, done, [] => done
  | n + 1, done, r :: todo => match memN r done with
    | true => walk R n done todo
    | false => walk R n (appM done [r]) (appM todo (nmsR (getR R r)))
/-- The place of a name. -/
def posN : List Nat → Nat → Nat
  | [], _ => 0
  | a :: l, r => match Nat.beq a r with
    | true => 0
    | false => posN l r + 1
def lenN : List Nat → Nat
  | [] => 0
  | _ :: l => lenN l + 1
theorem lenN_eq (l : List Nat) : lenN l = l.length := by
  induction l with
  | nil => rfl
  | cons a l ih => simp [lenN, ih]
theorem posN_at {ns : List Nat} {r : Nat} (h : posN ns r < ns.length) : ns[posN ns r]? = some r := by
  induction ns with
  | nil => simp at h
  | cons a l ih =>
    simp only [posN] at h ⊢
    cases hb : Nat.beq a r with
    | true =>
      have := Nat.eq_of_beq_eq_true hb; subst this
      rfl
    | false =>
      rw [hb] at h
      simp only [List.length_cons] at h
      simp only [List.getElem?_cons_succ]
      exact ih (by omega)
/-- The resources of some names, named by their places. -/
def canR (ns : List Nat) (R : List (Res El)) : List Nat → List (Res El)
  | [] => []
  | r :: l => mapNR (posN ns) (getR R r) :: canR ns R l
theorem lenR_can (ns : List Nat) (R : List (Res El)) (l : List Nat) : lenR (canR ns R l) = l.length := by
  induction l with
  | nil => rfl
  | cons r l ih => simp [canR, lenR, ih]
theorem getR_can (ns : List Nat) (R : List (Res El)) (l : List Nat) (q : Nat) : getR (canR ns R l) q = match l[q]? with | some r => mapNR (posN ns) (getR R r) | none => .dead := by
  induction l generalizing q with
  | nil => rfl
  | cons r l ih => cases q with
    | zero => rfl
    | succ q => simp only [canR, getR, ih]; rfl
/-- The names by their places. -/
def Env.can (E : Env) (ns : List Nat) : Env := fun q => (ns[q]?).bind E
theorem Env.can_ok {E : Env} {ns : List Nat} {r : Nat} {e : REnv} (h : decide (posN ns r < ns.length) = true) (he : E r = some e) : E.can ns (posN ns r) = some e := by
  unfold Env.can
  rw [posN_at (by simpa using h)]; exact he
section
variable {L : Lay El} {I : Nat → Prop} {w : World} {E : Env} {R : List (Res El)}
theorem own_can {ns : List Nat} {b : Nat} (h : Own (E.can ns) (canR ns R ns) b) : Own E R b ∧ ∃ r e, r ∈ ns ∧ getR R r ≠ .dead ∧ E r = some e ∧ e.blk = some b := by
  obtain ⟨q, e, h1, h2, h3⟩ := h
  rw [getR_can] at h1
  unfold Env.can at h2
  cases hq : ns[q]? with
  | none => rw [hq] at h2; cases h2
  | some r =>
    rw [hq] at h1 h2
    have hd := mapNR_dead h1
    exact ⟨⟨r, e, hd, h2, h3⟩, r, e, List.mem_of_getElem? hq, hd, h2, h3⟩
theorem HR.can (h : HR L I w E R) {ns : List Nat} (hn : ns.Nodup) (hr : refsR ns.length (canR ns R ns) = true) : HR L I w (E.can ns) (canR ns R ns) where
  res q hq := by
    have hg := getR_can ns R ns q
    cases hx : ns[q]? with
    | none => rw [hx] at hg; exact absurd hg hq
    | some r =>
      rw [hx] at hg
      simp only at hg
      rw [hg] at hq
      obtain ⟨e, h1, h2⟩ := h.res r (mapNR_dead hq)
      refine ⟨e, by unfold Env.can; rw [hx]; exact h1, ?_⟩
      rw [hg]
      have := refsR_one hr q
      rw [hg] at this
      exact h2.mapN (allBR_map this) (fun r e hp he => Env.can_ok hp he)
  apart q q' e e' b h1 h2 h3 h4 h5 h6 := by
    rw [getR_can] at h1 h2
    unfold Env.can at h3 h4
    cases hx : ns[q]? with
    | none => rw [hx] at h3; cases h3
    | some r =>
      cases hx' : ns[q']? with
      | none => rw [hx'] at h4; cases h4
      | some r' =>
        rw [hx] at h1 h3
        rw [hx'] at h2 h4
        have := h.apart r r' e e' b (mapNR_dead h1) (mapNR_dead h2) h3 h4 h5 h6
        subst this
        obtain ⟨g1, g2⟩ := List.getElem?_eq_some_iff.1 hx
        obtain ⟨g3, g4⟩ := List.getElem?_eq_some_iff.1 hx'
        exact (List.getElem_inj hn).1 (g2.trans g4.symm)
  notI b ho := h.notI b (own_can ho).1
  old := h.old
end

/-- A graph of resources: data as resources, and back; the root is the first; 'keep': the places whose names stay. -/
structure Gr (El : TypeId → Type) (S : Type) where
  gr : S → List (Res El)
  dec : List (Res El) → Option S
  dec_ok : ∀ R s, dec R = some s → R = gr s
  n : Nat
  fuel : Nat
  len : ∀ s, lenR (gr s) = n
  live : ∀ s q, q < n → getR (gr s) q ≠ .dead
  refs : ∀ s, refsR n (gr s) = true
  keep : Nat → Bool
  pos : 0 < n
  root : keep 0 = true

/-- The names that stay have stayed. -/
def keptB (keep : Nat → Bool) : List Nat → Nat → Bool
  | [], _ => true
  | r :: l, q => (!keep q || Nat.beq r q) && keptB keep l (q + 1)
theorem keptB_at {keep : Nat → Bool} {l : List Nat} {q0 : Nat} (h : keptB keep l q0 = true) {q r : Nat} (hr : l[q]? = some r) (hk : keep (q0 + q) = true) : r = q0 + q := by
  induction l generalizing q0 q with
  | nil => simp at hr
  | cons a l ih =>
    simp only [keptB, Bool.and_eq_true, Bool.or_eq_true, Bool.not_eq_true'] at h
    cases q with
    | zero =>
      simp at hr; subst hr
      rcases h.1 with h1 | h1
      · rw [Nat.add_zero] at hk; rw [hk] at h1; cases h1
      · exact Nat.eq_of_beq_eq_true h1
    | succ q =>
      have := ih h.2 (by simpa using hr) (by rw [← hk]; congr 1; omega)
      omega
/-- The same list of names, looked at. -/
def forceNL {X : Sort _} : List Nat → (List Nat → X) → X
  | [], k => k []
  | a :: l, k => forceN a fun a => forceNL l fun l => k (a :: l)
theorem forceNL_eq {X : Sort _} (l : List Nat) (k : List Nat → X) : forceNL l k = k l := by
  induction l generalizing k with
  | nil => rfl
  | cons a l ih => simp only [forceNL, forceN_eq, ih]
section defs
variable {S α β : Type} (G : Gr El S) (d : Cd El α) (e : Cd El β)
/-- The graph that is left, and what is handed back. -/
def rdGN (y : AVal El) (R R' : List (Res El)) (Q : S → β → Prop) (ns : List Nat) : Prop := match G.dec (canR ns R' ns) with
  | some s => match nodupN ns && keptB G.keep ns 0 with
    | true => rd e (settleA R y) (Q s)
    | false => False
  | none => False
def rdG (y : AVal El) (R : List (Res El)) (Q : S → β → Prop) : Prop :=
  forceNL (walk (updR R (killU (vecsA R y))) G.fuel [] [0]) fun ns => rdGN G e y R (updR R (killU (vecsA R y))) Q ns
def tgt (ns : List Nat) (base : Nat) (q : Nat) : Nat := match G.keep q with
  | true => natAt ns q
  | false => base + q
def putU (ns : List Nat) (base : Nat) : Nat → List (Res El) → List (Nat × Res El)
  | _, [] => []
  | q, x :: l => (tgt G ns base q, mapNR (tgt G ns base) x) :: putU ns base (q + 1) l
def appU {X : Type} : List X → List X → List X
  | [], l => l
  | a :: k, l => a :: appU k l
def updG (ns : List Nat) (base : Nat) (s : S) : List (Nat × Res El) := appU (killU ns) (putU G ns base 0 (G.gr s))
/-- A contract over a graph. -/
def gcallN (pre : S → α → Prop) (f : S → α → S × β) (p : Nat) (rest : List (AVal El)) (R : List (Res El)) (base : Nat) (ns : List Nat) : Tree (Eff El) := match G.dec (canR ns R ns) with
  | some s => match nodupN ns && Nat.beq (natAt ns 0) p with
    | true => match d.dec true (settleL R rest), vecsL R rest with
      | some (x, []), [] => .need (pre s x) (.leaf (one (e.enc (f s x).2), updG G ns base (f s x).1))
      | _, _ => .fail
    | false => .fail
  | none => .fail
def gcall (pre : S → α → Prop) (f : S → α → S × β) : GSpec El := fun args R base => match args with
  | .ptr p 0 :: rest => forceNL (walk R G.fuel [] [p]) fun ns => gcallN G d e pre f p rest R base ns
  | _ => .fail
end defs
theorem appU_eq {X : Type} (k l : List X) : appU k l = k ++ l := by
  induction k with
  | nil => rfl
  | cons a k ih => simp [appU, ih]
theorem getR_kill (ns : List Nat) (R : List (Res El)) (r : Nat) : getR (updR R (killU ns)) r = if r ∈ ns then .dead else getR R r := by
  induction ns generalizing R with
  | nil => simp [killU, updR]
  | cons a l ih =>
    simp only [killU, updR, ih, getR_setR]
    by_cases h : r ∈ l
    · simp [h]
    · by_cases h' : r = a
      · simp [h']
      · simp [h, h']
theorem getR_put {S : Type} {G : Gr El S} {ns : List Nat} {base : Nat} {rs : List (Res El)} {q0 : Nat} (hinj : ∀ q q', q0 ≤ q → q < q0 + lenR rs → q0 ≤ q' → q' < q0 + lenR rs → tgt G ns base q = tgt G ns base q' → q = q') (R : List (Res El)) :
    (∀ q, q0 ≤ q → q < q0 + lenR rs → getR (updR R (putU G ns base q0 rs)) (tgt G ns base q) = mapNR (tgt G ns base) (getR rs (q - q0))) ∧
    (∀ r, (∀ q, q0 ≤ q → q < q0 + lenR rs → r ≠ tgt G ns base q) → getR (updR R (putU G ns base q0 rs)) r = getR R r) := by
  induction rs generalizing q0 R with
  | nil => exact ⟨fun q h1 h2 => by simp only [lenR] at h2; omega, fun r _ => rfl⟩
  | cons x rs ih =>
    simp only [lenR] at hinj
    have ih := ih (q0 := q0 + 1) (fun q q' h1 h2 h3 h4 => hinj q q' (by omega) (by omega) (by omega) (by omega)) (setR R (tgt G ns base q0) (mapNR (tgt G ns base) x))
    refine ⟨fun q h1 h2 => ?_, fun r hr => ?_⟩
    · simp only [lenR] at h2
      simp only [putU, updR]
      by_cases hq : q = q0
      · subst hq
        rw [ih.2 _ (fun q' h3 h4 h => by have := hinj q q' (by omega) (by omega) (by omega) (by omega) h; omega), getR_setR, if_pos rfl, Nat.sub_self]; rfl
      · rw [ih.1 q (by omega) (by omega), show q - q0 = (q - (q0 + 1)) + 1 from by omega]; rfl
    · simp only [lenR] at hr
      simp only [putU, updR]
      rw [ih.2 r (fun q h1 h2 => hr q (by omega) (by omega)), getR_setR, if_neg (hr q0 (by omega) (by omega))]
end Go.Ax
end

/- A verified symbolic executor, part 30: contracts over graphs hold where they were shown of the function's own text. Over any program; no condition. -/
section
set_option linter.unusedVariables false
set_option linter.unusedSimpArgs false
namespace Go.Ax
variable {El : TypeId → Type}
theorem mem_putU {S : Type} {G : Gr El S} {ns : List Nat} {base : Nat} {rs : List (Res El)} {q0 q : Nat} (h : q < lenR rs) : ∃ x, (tgt G ns base (q0 + q), x) ∈ putU G ns base q0 rs := by
  induction rs generalizing q0 q with
  | nil => simp [lenR] at h
  | cons x rs ih =>
    simp only [putU]
    cases q with
    | zero => exact ⟨_, List.mem_cons_self⟩
    | succ q =>
      obtain ⟨y, hy⟩ := ih (q0 := q0 + 1) (q := q) (by simpa [lenR] using h)
      exact ⟨y, List.mem_cons_of_mem _ (by rw [show q0 + (q + 1) = q0 + 1 + q from by omega]; exact hy)⟩

theorem graph_back {S : Type} {G : Gr El S} {c : Cx El} {I I2 : Nat → Prop} {E E2 : Env} {w w' : World} {R : List (Res El)} {ns : List Nat} {base : Nat} {s s' : S} {x : AVal El} {v : Value}
    (hr : HR c.L I w E R) (hn : ns.Nodup) (hgr : canR ns R ns = G.gr s) (hfr : Fr (Own (E.can ns) (G.gr s)) w w') (f1 : ∀ b, I b → I2 b)
    (f3 : ∀ b, I2 b → I b ∨ Own (E.can ns) (G.gr s) b ∨ w.heap.size ≤ b) (f4 : ∀ b, Own E2 (G.gr s') b → Own (E.can ns) (G.gr s) b ∨ w.heap.size ≤ b)
    (hr2 : HR c.L I2 w' E2 (G.gr s')) (f6 : ∀ q, q < G.n → G.keep q = true → E2 q = E (natAt ns q)) (hfree : ∀ q, q < G.n → G.keep q = false → E (base + q) = none)
    (hx : Rep c.L I2 w' noE x v) : ∃ E', Post c.L I E R w base (updG G ns base s') x v w' I2 E' := by
  have hlen : ns.length = G.n := by rw [← G.len s, ← hgr, lenR_can]
  have hat : ∀ q, q < G.n → ns[q]? = some (natAt ns q) := fun q hq => by
    rw [natAt_eq, List.getD_eq_getElem?_getD, List.getElem?_eq_getElem (by omega)]; rfl
  have hlive : ∀ q, q < G.n → getR R (natAt ns q) ≠ .dead := fun q hq => by
    have h1 := G.live s q hq
    rw [← hgr, getR_can, hat q hq] at h1
    exact mapNR_dead h1
  have hsome : ∀ q, q < G.n → ∃ e, E (natAt ns q) = some e := fun q hq => by
    obtain ⟨e, h1, _⟩ := hr.res _ (hlive q hq)
    exact ⟨e, h1⟩
  have hmem : ∀ r, r ∈ ns → ∃ q, q < G.n ∧ r = natAt ns q := fun r h => by
    obtain ⟨q, hq, rfl⟩ := List.getElem_of_mem h
    refine ⟨q, by omega, ?_⟩
    have := hat q (by omega)
    rw [List.getElem?_eq_getElem hq] at this
    exact Option.some.inj this
  let inR : Nat → Prop := fun r => base ≤ r ∧ r < base + G.n ∧ G.keep (r - base) = false
  have hinR : ∀ r, inR r → E r = none := fun r h => by
    have := hfree (r - base) (by have := h.2.1; have := h.1; omega) h.2.2
    rwa [show base + (r - base) = r from by have := h.1; omega] at this
  let E' : Env := fun r => if base ≤ r ∧ r < base + G.n ∧ G.keep (r - base) = false then E2 (r - base) else E r
  have hE1 : ∀ r, ¬ inR r → E' r = E r := fun r h => if_neg h
  have hE2 : ∀ r, inR r → E' r = E2 (r - base) := fun r h => if_pos h
  have hEE : E.le E' := fun r e he => by
    rw [hE1 r (fun h => by rw [hinR r h] at he; cases he)]; exact he
  have tk : ∀ q, G.keep q = true → tgt G ns base q = natAt ns q := fun q h => by unfold tgt; rw [h]
  have tf : ∀ q, G.keep q = false → tgt G ns base q = base + q := fun q h => by unfold tgt; rw [h]
  have hnot : ∀ q, q < G.n → ¬ inR (natAt ns q) := fun q hq h => by
    obtain ⟨e, he⟩ := hsome q hq
    rw [hinR _ h] at he; cases he
  have hT : ∀ q, q < G.n → E' (tgt G ns base q) = E2 q := fun q hq => by
    cases hk : G.keep q with
    | true => rw [tk q hk, hE1 _ (hnot q hq), f6 q hq hk]
    | false => rw [tf q hk, hE2 _ ⟨by omega, by omega, by rw [show base + q - base = q from by omega]; exact hk⟩, show base + q - base = q from by omega]
  have natInj : ∀ q q', q < G.n → q' < G.n → natAt ns q = natAt ns q' → q = q' := fun q q' h1 h2 h => by
    have g1 := hat q h1
    have g2 := hat q' h2
    rw [h, ← g2] at g1
    rw [List.getElem?_eq_getElem (by omega), List.getElem?_eq_getElem (by omega)] at g1
    exact (List.getElem_inj hn).1 (Option.some.inj g1)
  have fresh : ∀ q q', q < G.n → q' < G.n → G.keep q' = false → natAt ns q ≠ base + q' := fun q q' h1 h2 h3 h => by
    obtain ⟨e, he⟩ := hsome q h1
    rw [h, hfree q' h2 h3] at he; cases he
  have hinj : ∀ q q', q < G.n → q' < G.n → tgt G ns base q = tgt G ns base q' → q = q' := fun q q' h1 h2 h => by
    cases hk : G.keep q with
    | true =>
      cases hk' : G.keep q' with
      | true => rw [tk q hk, tk q' hk'] at h; exact natInj q q' h1 h2 h
      | false => rw [tk q hk, tf q' hk'] at h; exact absurd h (fresh q q' h1 h2 hk')
    | false =>
      cases hk' : G.keep q' with
      | true => rw [tf q hk, tk q' hk'] at h; exact absurd h.symm (fresh q' q h2 h1 hk)
      | false => rw [tf q hk, tf q' hk'] at h; omega
  have hl' : lenR (G.gr s') = G.n := G.len s'
  obtain ⟨p1, p2⟩ := getR_put (G := G) (ns := ns) (base := base) (rs := G.gr s') (q0 := 0) (fun q q' _ h2 _ h4 => hinj q q' (by omega) (by omega)) (updR R (killU ns))
  have hupd : updR R (updG G ns base s') = updR (updR R (killU ns)) (putU G ns base 0 (G.gr s')) := by unfold updG; rw [appU_eq, updR_two]
  rw [← hupd] at p1 p2
  have split : ∀ r, getR (updR R (updG G ns base s')) r ≠ .dead →
      (∃ q, q < G.n ∧ r = tgt G ns base q ∧ getR (updR R (updG G ns base s')) r = mapNR (tgt G ns base) (getR (G.gr s') q)) ∨
      (r ∉ ns ∧ (∀ q, q < G.n → r ≠ tgt G ns base q) ∧ getR R r ≠ .dead ∧ ¬ inR r ∧ getR (updR R (updG G ns base s')) r = getR R r) := fun r hd => by
    by_cases h : ∃ q, q < G.n ∧ r = tgt G ns base q
    · obtain ⟨q, h1, rfl⟩ := h
      exact .inl ⟨q, h1, rfl, by have := p1 q (Nat.zero_le _) (by omega); simpa using this⟩
    · have h' : ∀ q, q < G.n → r ≠ tgt G ns base q := fun q h1 h2 => h ⟨q, h1, h2⟩
      have g := p2 r (fun q _ h2 => h' q (by omega))
      rw [getR_kill] at g
      by_cases hm : r ∈ ns
      · rw [if_pos hm] at g; exact absurd g hd
      · rw [if_neg hm] at g
        refine .inr ⟨hm, h', by rw [← g]; exact hd, fun hi => ?_, g⟩
        refine h' (r - base) (by have := hi.1; have := hi.2.1; omega) ?_
        rw [tf _ hi.2.2]; have := hi.1; omega
  have ownIn : ∀ b, Own (E.can ns) (G.gr s) b → ∃ r e, r ∈ ns ∧ getR R r ≠ .dead ∧ E r = some e ∧ e.blk = some b := fun b h => by
    rw [← hgr] at h; exact (own_can h).2
  have ownE : ∀ b, Own (E.can ns) (G.gr s) b → Own E R b := fun b h => by rw [← hgr] at h; exact (own_can h).1
  have ownT : ∀ q e b, q < G.n → E2 q = some e → e.blk = some b → Own E2 (G.gr s') b := fun q e b h1 h2 h3 => ⟨q, e, G.live s' q h1, h2, h3⟩
  have own : ∀ b, Own E' (updR R (updG G ns base s')) b → Own E2 (G.gr s') b ∨ ∃ r e, r ∉ ns ∧ getR R r ≠ .dead ∧ E r = some e ∧ e.blk = some b := by
    rintro b ⟨r, e, h1, h2, h3⟩
    rcases split r h1 with ⟨q, hq, rfl, _⟩ | ⟨g1, _, g3, g4, _⟩
    · rw [hT q hq] at h2; exact .inl (ownT q e b hq h2 h3)
    · rw [hE1 r g4] at h2; exact .inr ⟨r, e, g1, g3, h2, h3⟩
  have away : ∀ r e b, r ∉ ns → getR R r ≠ .dead → E r = some e → e.blk = some b → ¬ Own (E.can ns) (G.gr s) b := fun r e b h1 h2 h3 h4 ho => by
    obtain ⟨r', e', g1, g2, g3, g4⟩ := ownIn b ho
    have := hr.apart r r' e e' b h2 g2 h3 g3 h4 g4
    subst this; exact h1 g1
  refine ⟨E', ⟨⟨f1, hEE, hfr.weaken ownE, fun b h => (f3 b h).imp id (Or.imp (ownE b) id), fun b h => ?_⟩, ⟨fun r hd => ?_, fun r r' e e' b h1 h2 h3 h4 h5 h6 => ?_, fun b h hI => ?_, hr2.old⟩, hx.mono (fun _ h => h) (fun _ _ => rfl) (fun r e he => by cases he), fun r hnm => ?_⟩⟩
  · rcases own b h with h | ⟨r, e, _, g2, g3, g4⟩
    · exact (f4 b h).imp (ownE b) id
    · exact .inl ⟨r, e, g2, g3, g4⟩
  · rcases split r hd with ⟨q, hq, rfl, hg⟩ | ⟨g1, g2, g3, g4, hg⟩
    · obtain ⟨e, k1, k2⟩ := hr2.res q (G.live s' q hq)
      rw [hg]
      refine ⟨e, by rw [hT q hq]; exact k1, k2.mapN (refsR_one (G.refs s') q) (fun r e hp he => ?_)⟩
      rw [hT r (by simpa using hp)]; exact he
    · obtain ⟨e, k1, k2⟩ := hr.res r g3
      rw [hg]
      exact ⟨e, by rw [hE1 r g4]; exact k1, k2.keep f1 (fun b hb => hfr.block b (hr.old b hb) (fun ho => hr.notI b (ownE b ho) hb)) hEE (fun b hb hlt => hfr.block b hlt (away r e b g1 g3 k1 hb))⟩
  · rcases split r h1 with ⟨q, hq, rfl, _⟩ | ⟨g1, g2, g3, g4, _⟩
    · rw [hT q hq] at h3
      rcases split r' h2 with ⟨q', hq', rfl, _⟩ | ⟨k1, k2, k3, k4, _⟩
      · rw [hT q' hq'] at h4
        rw [hr2.apart q q' e e' b (G.live s' q hq) (G.live s' q' hq') h3 h4 h5 h6]
      · rw [hE1 r' k4] at h4
        rcases f4 b (ownT q e b hq h3 h5) with h | h
        · exact absurd h (away r' e' b k1 k3 h4 h6)
        · have := hr.own_lt ⟨r', e', k3, h4, h6⟩; omega
    · rw [hE1 r g4] at h3
      rcases split r' h2 with ⟨q', hq', rfl, _⟩ | ⟨k1, k2, k3, k4, _⟩
      · rw [hT q' hq'] at h4
        rcases f4 b (ownT q' e' b hq' h4 h6) with h | h
        · exact absurd h (away r e b g1 g3 h3 h5)
        · have := hr.own_lt ⟨r, e, g3, h3, h5⟩; omega
      · rw [hE1 r' k4] at h4
        exact hr.apart r r' e e' b g3 k3 h3 h4 h5 h6
  · rcases own b h with h | ⟨r, e, g1, g2, g3, g4⟩
    · exact hr2.notI b h hI
    · rcases f3 b hI with h' | h' | h'
      · exact hr.notI b ⟨r, e, g2, g3, g4⟩ h'
      · exact away r e b g1 g2 g3 g4 h'
      · have := hr.own_lt ⟨r, e, g2, g3, g4⟩; omega
  · refine hE1 r (fun hi => ?_)
    obtain ⟨y, hy⟩ := mem_putU (G := G) (ns := ns) (base := base) (rs := G.gr s') (q0 := 0) (q := r - base) (by have := hi.1; have := hi.2.1; omega)
    rw [Nat.zero_add, tf _ hi.2.2, show base + (r - base) = r from by have := hi.1; omega] at hy
    have := hnm y (by unfold updG; rw [appU_eq]; exact List.mem_append_right _ hy)
    have := hi.1; omega

section
variable {c : Cx El}
theorem gcall_ok {Γ : FuncId → Option (GSpec El)} (hΓ : ∀ f g, Γ f = some g → GOk c f g) {fi : FuncId} {fn : Func} {code : Code} (hfn : c.P.funcs[fi]? = some fn) (hb : fn.body = some code)
    (henter : ∀ args w, (callFunc fi args).run c.P w = .ok (.enter fi args) w) {S α β : Type} {G : Gr El S} {d : Cd El α} {e : Cd El β} {pre : S → α → Prop} {f : S → α → S × β}
    (h : ∀ s x, pre s x → ∃ spec n, aexecF cnd c Γ spec n fn code (.ptr 0 0 :: d.enc x) (G.gr s) (fun y R => rdG G e y R (fun s' b => (s', b) = f s x))) : GOk c fi (gcall G d e pre f) := by
  refine ⟨henter, fun args R base y ho I E w vals hargs hr hfree => ?_⟩
  unfold gcall at ho
  split at ho
  · rename_i p rest
    rw [forceNL_eq] at ho
    generalize hns : walk R G.fuel [] [p] = ns at ho
    unfold gcallN at ho
    split at ho
    · rename_i s hs
      have hgr := G.dec_ok _ _ hs
      split at ho
      · rename_i hnd
        simp only [Bool.and_eq_true] at hnd
        have hn := nodupN_iff hnd.1
        have hp := Nat.eq_of_beq_eq_true hnd.2
        split at ho
        · rename_i x hx hv
          obtain ⟨hpre, ho⟩ := ho
          simp only [Tree.Out] at ho
          have hy := ho.symm
          subst hy
          have hlen : ns.length = G.n := by rw [← G.len s, ← hgr, lenR_can]
          have hat : ∀ q, q < G.n → ns[q]? = some (natAt ns q) := fun q hq => by
            rw [natAt_eq, List.getD_eq_getElem?_getD, List.getElem?_eq_getElem (by omega)]; rfl
          obtain ⟨v0, vals', rfl, ha1, ha2⟩ := hargs.inv_cons
          have hr0 : HR c.L I w (E.can ns) (G.gr s) := by rw [← hgr]; exact hr.can hn (by rw [hgr, hlen]; exact G.refs s)
          have e0 : ∀ q, q < G.n → E.can ns q = E (natAt ns q) := fun q hq => by unfold Env.can; rw [hat q hq]; rfl
          have ha1' : Rep c.L I w (E.can ns) (.ptr 0 0) v0 := by
            cases ha1 with
            | ptr he => exact .ptr (by rw [e0 0 G.pos, hp]; exact he)
          have hset := settleL_ok (J := I) (E' := E.can ns) hr ha2 (fun _ h => h) (fun r hr' => by rw [hv] at hr'; simp at hr')
          have hrd := d.reads _ _ _ _ hx c.L I w _ vals' hset
          rw [List.append_nil] at hrd
          obtain ⟨spec, n, hexec⟩ := h s x hpre
          refine (aexecF_ok hΓ hfn hb hexec (Reps.cons ha1' hrd) hr0 (fun r hr' => ?_)).mono ?_
          · rw [G.len] at hr'
            unfold Env.can
            rw [List.getElem?_eq_none (by omega)]; rfl
          · rintro en w' ⟨v, z, R1, I1, E1, rfl, hK, hk⟩
            unfold rdG at hK
            rw [forceNL_eq] at hK
            obtain ⟨I2, q1, q2, q3, q4⟩ := kill_ok hk.hr (vecsA R1 z)
            generalize hns1 : walk (updR R1 (killU (vecsA R1 z))) G.fuel [] [0] = ns1 at hK
            unfold rdGN at hK
            split at hK
            · rename_i s' hs'
              have hgr' := G.dec_ok _ _ hs'
              split at hK
              · rename_i hnd'
                simp only [Bool.and_eq_true] at hnd'
                have hn' := nodupN_iff hnd'.1
                have hlen' : ns1.length = G.n := by rw [← G.len s', ← hgr', lenR_can]
                have hrep := settle_ok (J := I2) (E' := noE) hk.hr hk.rep q1.imm (fun r hr' e' b he hb' => q4 r hr' (vecsA_live _ hr') e' b he hb')
                obtain ⟨b, hQ, hrep'⟩ := rd_ok hK hrep
                have hr2 : HR c.L I2 w' (E1.can ns1) (G.gr s') := by rw [← hgr']; exact q2.can hn' (by rw [hgr', hlen']; exact G.refs s')
                have hext := hk.ext.trans q1
                have hfs : (f s x).1 = s' ∧ (f s x).2 = b := by rw [← hQ]; exact ⟨rfl, rfl⟩
                have o2 : ∀ k, Own (E1.can ns1) (G.gr s') k → Own E1 (updR R1 (killU (vecsA R1 z))) k := fun k hk' => by rw [← hgr'] at hk'; exact (own_can hk').1
                obtain ⟨E', hpost⟩ := graph_back (base := base) (s' := s') (x := one (e.enc b)) (v := v) hr hn hgr hext.fr hext.imm hext.immOld (fun k hk' => hext.ownOld k (o2 k hk')) hr2 (fun q hq hkp => by
                    rw [← e0 q hq]
                    have hlt : q < ns1.length := by omega
                    have := keptB_at hnd'.2 (q := q) (List.getElem?_eq_getElem hlt) (by rw [Nat.zero_add]; exact hkp)
                    unfold Env.can
                    rw [List.getElem?_eq_getElem hlt, this, Nat.zero_add]
                    exact hk.same q (by rw [G.len]; exact hq)) (fun q hq hkp => by
                    obtain ⟨y, hy⟩ := mem_putU (G := G) (ns := ns) (base := base) (rs := G.gr (f s x).1) (q0 := 0) (q := q) (by rw [G.len]; exact hq)
                    rw [Nat.zero_add] at hy
                    have ht : tgt G ns base q = base + q := by unfold tgt; rw [hkp]
                    rw [ht] at hy
                    exact hfree (base + q) y (by unfold updG; rw [appU_eq]; exact List.mem_append_right _ hy) (by omega)) hrep'
                refine ⟨v, I2, E', rfl, ?_⟩
                simp only [hfs.1, hfs.2]
                exact hpost
              · exact hK.elim
            · exact hK.elim
        · exact ho.elim
      · exact ho.elim
    · exact ho.elim
  · exact ho.elim
end
end Go.Ax
end

/- A verified symbolic executor, part 31: functions that make a graph of resources out of plain data, or hand back nil. Over any program; no condition. -/
section
set_option linter.unusedVariables false
set_option linter.unusedSimpArgs false
namespace Go.Ax
variable {El : TypeId → Type}
def mkT (a : AVal El) : List (AVal El) → AVal El
  | [] => a
  | l => .tup (a :: l)
/-- A result's pointer, where it has one, and the rest. -/
def splitP : AVal El → Option (Option Nat × List (AVal El))
  | .nilp => some (none, [])
  | .ptr r 0 => some (some r, [])
  | .tup (.nilp :: b :: l) => some (none, b :: l)
  | .tup (.ptr r 0 :: b :: l) => some (some r, b :: l)
  | _ => none
section defs
variable {S α β : Type} (G : Gr El S) (d : Cd El α) (e : Cd El β)
def rdNewN (l : List (AVal El)) (R : List (Res El)) (r : Nat) (Q : Option S → β → Prop) (ns : List Nat) : Prop := match G.dec (canR ns R ns) with
  | some s => match nodupN ns && Nat.beq (natAt ns 0) r with
    | true => match e.dec false l with
      | some (b, []) => Q (some s) b
      | _ => False
    | false => False
  | none => False
/-- The graph that is new, or none, and what is handed back besides. -/
def rdNew (y : AVal El) (R : List (Res El)) (Q : Option S → β → Prop) : Prop := match splitP y with
  | some (none, l) => match e.dec false l with
    | some (b, []) => Q none b
    | _ => False
  | some (some r, l) => forceNL (walk R G.fuel [] [r]) fun ns => rdNewN G e l R r Q ns
  | none => False
/-- A contract from data to a new graph. -/
def gnew (pre : α → Prop) (ok : α → Bool) (f : α → S) (v : α → β) : GSpec El := fun args R base => match d.dec true (settleL R args) with
  | some (x, []) => match refsL 0 (e.enc (v x)) with
    | true => .need (pre x) (.node (ok x) (.leaf (shiftB base (mkT (.ptr 0 0) (e.enc (v x))), appU (killU (vecsL R args)) (updNew base (shiftR base (G.gr (f x))))))
        (.leaf (shiftB base (mkT .nilp (e.enc (v x))), killU (vecsL R args))))
    | false => .fail
  | _ => .fail
end defs
theorem splitP_ok {y : AVal El} {o : Option Nat} {l : List (AVal El)} (h : splitP y = some (o, l)) : y = mkT (match o with | some r => .ptr r 0 | none => .nilp) l := by
  unfold splitP at h
  split at h <;> first | (cases h; rfl) | cases h
mutual
theorem allB_mono {p q : Nat → Bool} (hpq : ∀ r, p r = true → q r = true) : ∀ a : AVal El, allB p a = true → allB q a = true
  | .ptr r _, h => hpq r h
  | .eptr r _ _ _, h => hpq r h
  | .cs r _ _, h => hpq r h
  | .vec r, h => hpq r h
  | .mapr r, h => hpq r h
  | .fn _ l, h => allBL_mono hpq l h
  | .agg l, h => allBL_mono hpq l h
  | .tup l, h => allBL_mono hpq l h
  | .top, _ => rfl
  | .bool _, _ => rfl
  | .int _ _, _ => rfl
  | .str _, _ => rfl
  | .nilp, _ => rfl
  | .nilf, _ => rfl
  | .nilm, _ => rfl
  | .nils, _ => rfl
  | .anyb, _ => rfl
  | .lptr _ _ _ _ _, _ => rfl
  | .list _ _, _ => rfl
theorem allBL_mono {p q : Nat → Bool} (hpq : ∀ r, p r = true → q r = true) : ∀ l : List (AVal El), allBL p l = true → allBL q l = true
  | [], _ => rfl
  | a :: l, h => by
    simp only [allBL, Bool.and_eq_true] at h ⊢
    exact ⟨allB_mono hpq a h.1, allBL_mono hpq l h.2⟩
end
mutual
theorem mapN_id : ∀ a : AVal El, mapN id a = a
  | .ptr _ _ => rfl
  | .eptr _ _ _ _ => rfl
  | .cs _ _ _ => rfl
  | .vec _ => rfl
  | .mapr _ => rfl
  | .fn f l => by simp only [mapN]; rw [mapNL_id l]
  | .agg l => by simp only [mapN]; rw [mapNL_id l]
  | .tup l => by simp only [mapN]; rw [mapNL_id l]
  | .top => rfl
  | .bool _ => rfl
  | .int _ _ => rfl
  | .str _ => rfl
  | .nilp => rfl
  | .nilf => rfl
  | .nilm => rfl
  | .nils => rfl
  | .anyb => rfl
  | .lptr _ _ _ _ _ => rfl
  | .list _ _ => rfl
theorem mapNL_id : ∀ l : List (AVal El), mapNL id l = l
  | [] => rfl
  | a :: l => by simp only [mapNL]; rw [mapN_id a, mapNL_id l]
end
theorem refsL_mono {n m : Nat} (hnm : n ≤ m) {l : List (AVal El)} (h : refsL n l = true) : refsL m l = true := by
  rw [refs_allBL0] at h ⊢
  exact allBL_mono (fun r hr => by simp only [decide_eq_true_eq] at hr ⊢; omega) l h
theorem refsB_mkT {n : Nat} {a : AVal El} {l : List (AVal El)} (ha : refsB n a = true) (hl : refsL n l = true) : refsB n (mkT a l) = true := by
  cases l with
  | nil => exact ha
  | cons b l => simp only [mkT, refsB, refsL, Bool.and_eq_true] at hl ⊢; exact ⟨ha, hl⟩
section
variable {c : Cx El} {L : Lay El} {I : Nat → Prop} {w : World} {E E' : Env}
/-- A pointer and plain data, under other names. -/
theorem rep_mkT {a a' : AVal El} {l : List (AVal El)} {v : Value} (h : Rep L I w E (mkT a l) v) (hl : refsL 0 l = true) (ha : ∀ v, Rep L I w E a v → Rep L I w E' a' v) : Rep L I w E' (mkT a' l) v := by
  cases l with
  | nil => exact ha v h
  | cons b l =>
    simp only [mkT] at h ⊢
    cases h with
    | tup hn hh =>
      have hr : Reps L I w E (a :: b :: l) _ := ⟨hn, hh⟩
      obtain ⟨v0, vs', e0, h1, h2⟩ := hr.inv_cons
      have h3 : Reps L I w E' (b :: l) vs' := by
        have := h2.mapN (p := fun _ => false) (f := id) (E' := E') (by rw [refs_allBL0] at hl; exact allBL_mono (fun r hr => by simp at hr) _ hl) (fun r e hp => by cases hp)
        rwa [mapNL_id] at this
      rw [e0]
      have h4 := Reps.cons (ha v0 h1) h3
      exact .tup h4.len h4.at_
theorem gnew_ok {Γ : FuncId → Option (GSpec El)} (hΓ : ∀ f g, Γ f = some g → GOk c f g) {fi : FuncId} {fn : Func} {code : Code} (hfn : c.P.funcs[fi]? = some fn) (hb : fn.body = some code)
    (henter : ∀ args w, (callFunc fi args).run c.P w = .ok (.enter fi args) w) {S α β : Type} {G : Gr El S} {d : Cd El α} {e : Cd El β} {pre : α → Prop} {ok : α → Bool} {f : α → S} {g : α → β}
    (h : ∀ x, pre x → ∃ spec n, aexecF cnd c Γ spec n fn code (d.enc x) [] (fun y R => rdNew G e y R (fun o b => b = g x ∧ match o with | some s => ok x = true ∧ s = f x | none => ok x = false))) : GOk c fi (gnew G d e pre ok f g) := by
  refine ⟨henter, fun args R base y ho I E w vals hargs hr hfree => ?_⟩
  unfold gnew at ho
  split at ho
  · rename_i x hx
    split at ho
    · rename_i hrf
      obtain ⟨hpre, ho⟩ := ho
      obtain ⟨spec, n, hexec⟩ := h x hpre
      obtain ⟨I0, q1, q2, q3, q4⟩ := kill_ok hr (vecsL R args)
      have hs : Reps c.L I0 w (E.cut 0) (settleL R args) vals := settleL_ok hr hargs q1.imm (fun r hr' e b he hb => q4 r hr' (vecsL_live _ hr') e b he hb)
      have hd := d.reads _ _ _ _ hx c.L I0 w _ vals hs
      rw [List.append_nil] at hd
      have hr0 : HR c.L I0 w (E.cut 0) [] := ⟨fun r h => absurd rfl h, fun r _ _ _ _ h => absurd rfl h, fun b ⟨r, e, h1, _⟩ => absurd rfl h1, q2.old⟩
      refine (aexecF_ok hΓ hfn hb hexec hd hr0 (fun r _ => by unfold Env.cut; rw [if_neg (by omega)])).mono ?_
      rintro en w' ⟨v, z, R1, I1, E1, rfl, hK, hk⟩
      unfold rdNew at hK
      split at hK
      · -- nil
        rename_i l hsp
        have hz := splitP_ok hsp
        split at hK
        · rename_i b hb'
          obtain ⟨rfl, hok⟩ := hK
          have hl := e.strict _ _ _ hb'
          rw [List.append_nil] at hl
          subst hl
          rcases ho with ⟨h1, _⟩ | ⟨_, ho⟩
          · rw [hok] at h1; cases h1
          simp only [Tree.Out] at ho
          subst ho
          have hrep : Rep c.L I1 w' noE (mkT .nilp (e.enc (g x))) v := by
            have := hk.rep; rw [hz] at this
            exact rep_mkT this hrf (fun v hv => by cases hv; exact .nilp)
          have hback : Back c I0 (E.cut 0) [] w (mkT .nilp (e.enc (g x))) [] v w' I1 noE := by
            refine ⟨⟨hk.ext.imm, fun r e he => (by unfold Env.cut at he; rw [if_neg (by omega)] at he; cases he), hk.ext.fr, hk.ext.immOld, fun b ⟨r, e, h1, _⟩ => absurd rfl h1⟩, ?_, hrep, fun r hr => by simp [lenR] at hr, Nat.le_refl _, fun r _ => rfl⟩
            exact ⟨fun r h => absurd rfl h, fun r _ _ _ _ h => absurd rfl h, fun b ⟨r, e, h1, _⟩ => absurd rfl h1, hk.hr.old⟩
          obtain ⟨I', E', hp⟩ := back_new (base := base) q2 (fun _ h => h) hback (rs := []) (fun _ _ => rfl) (refsB_mkT (n := 0) (a := .nilp) rfl hrf) rfl (.inl rfl) (fun r y hy => by simp [shiftR, updNew] at hy)
          have := Post.after q1 hp
          simp only [shiftR, updNew, List.append_nil] at this
          exact ⟨v, I', E', rfl, this⟩
        · exact hK.elim
      · rename_i r l hsp
        have hz := splitP_ok hsp
        rw [forceNL_eq] at hK
        generalize hns : walk R1 G.fuel [] [r] = ns at hK
        unfold rdNewN at hK
        split at hK
        · rename_i s hs'
          have hgr := G.dec_ok _ _ hs'
          split at hK
          · rename_i hnd
            simp only [Bool.and_eq_true] at hnd
            have hn := nodupN_iff hnd.1
            have hp := Nat.eq_of_beq_eq_true hnd.2
            split at hK
            · rename_i b hb'
              obtain ⟨rfl, hok, rfl⟩ := hK
              have hl := e.strict _ _ _ hb'
              rw [List.append_nil] at hl
              subst hl
              have ho : (Tree.leaf (shiftB base (mkT (.ptr 0 0) (e.enc (g x))), appU (killU (vecsL R args)) (updNew base (shiftR base (G.gr (f x))))) : Tree (Eff El)).Out y := by
                rcases ho with ⟨_, ho⟩ | ⟨h1, _⟩
                · exact ho
                · rw [hok] at h1; cases h1
              simp only [Tree.Out] at ho
              subst ho
              have hlen : ns.length = G.n := by rw [← G.len (f x), ← hgr, lenR_can]
              have hat : ns[0]? = some (natAt ns 0) := by
                rw [natAt_eq, List.getD_eq_getElem?_getD, List.getElem?_eq_getElem (by have := G.pos; omega)]; rfl
              have hr2 : HR c.L I1 w' (E1.can ns) (G.gr (f x)) := by rw [← hgr]; exact hk.hr.can hn (by rw [hgr, hlen]; exact G.refs _)
              have hrep : Rep c.L I1 w' (E1.can ns) (mkT (.ptr 0 0) (e.enc (g x))) v := by
                have := hk.rep; rw [hz] at this
                refine rep_mkT this hrf (fun v hv => ?_)
                cases hv with
                | ptr he => exact .ptr (by unfold Env.can; rw [hat, hp]; exact he)
              have hback : Back c I0 (E.cut 0) [] w (mkT (.ptr 0 0) (e.enc (g x))) (G.gr (f x)) v w' I1 (E1.can ns) := by
                refine ⟨⟨hk.ext.imm, fun r e he => (by unfold Env.cut at he; rw [if_neg (by omega)] at he; cases he), hk.ext.fr, hk.ext.immOld, fun b hb => ?_⟩, hr2, hrep, fun r hr => by simp [lenR] at hr, Nat.zero_le _, fun r hr' => ?_⟩
                · rw [← hgr] at hb
                  exact hk.ext.ownOld b (own_can hb).1
                · rw [G.len] at hr'
                  unfold Env.can
                  rw [List.getElem?_eq_none (by omega)]; rfl
              obtain ⟨I', E', hp'⟩ := back_new (base := base) q2 (fun _ h => h) hback (rs := G.gr (f x)) (fun _ _ => rfl) (refsB_mkT (by simp only [refsB, decide_eq_true_eq]; rw [G.len]; exact G.pos) (refsL_mono (Nat.zero_le _) hrf)) (by rw [G.len]; exact G.refs _) (.inl rfl) (fun r y hy hb => hfree r y (by rw [appU_eq]; exact List.mem_append_right _ hy) hb)
              have := Post.after q1 hp'
              rw [← appU_eq] at this
              exact ⟨v, I', E', rfl, this⟩
            · exact hK.elim
          · exact hK.elim
        · exact hK.elim
      · exact hK.elim
    · exact ho.elim
  · exact ho.elim
end
end Go.Ax
end

/- A verified symbolic executor, part 32: contracts of functions that look at a graph of resources and leave it as it is. Over any program; no condition. -/
section
set_option linter.unusedVariables false
set_option linter.unusedSimpArgs false
namespace Go.Ax
variable {El : TypeId → Type}
section defs
variable {S α β : Type} (G : Gr El S) (d : Cd El α) (e : Cd El β)
/-- The same graph; all names stay. -/
def Gr.all : Gr El S := { G with keep := fun _ => true, root := rfl }
def greadN (pre : S → α → Prop) (f : S → α → β) (p : Nat) (rest : List (AVal El)) (R : List (Res El)) (base : Nat) (ns : List Nat) : Tree (Eff El) := match G.dec (canR ns R ns) with
  | some s => match nodupN ns && Nat.beq (natAt ns 0) p with
    | true => match d.dec true (settleL R rest), vecsL R rest with
      | some (x, []), [] => .need (pre s x) (.leaf (one (e.enc (f s x)), []))
      | _, _ => .fail
    | false => .fail
  | none => .fail
/-- A contract that looks at a graph. -/
def gread (pre : S → α → Prop) (f : S → α → β) : GSpec El := fun args R base => match args with
  | .ptr p 0 :: rest => forceNL (walk R G.fuel [] [p]) fun ns => greadN G d e pre f p rest R base ns
  | _ => .fail
end defs
section
variable {c : Cx El}
theorem gcall_core {Γ : FuncId → Option (GSpec El)} (hΓ : ∀ f g, Γ f = some g → GOk c f g) {fi : FuncId} {fn : Func} {code : Code} (hfn : c.P.funcs[fi]? = some fn) (hb : fn.body = some code)
    {S α β : Type} {G : Gr El S} {d : Cd El α} {e : Cd El β} {pre : S → α → Prop} {f : S → α → S × β}
    (h : ∀ s x, pre s x → ∃ spec n, aexecF cnd c Γ spec n fn code (.ptr 0 0 :: d.enc x) (G.gr s) (fun y R => rdG G e y R (fun s' b => (s', b) = f s x)))
    {R : List (Res El)} {base p : Nat} {rest : List (AVal El)} {ns : List Nat} {s : S} {x : α} {I : Nat → Prop} {E : Env} {w : World} {vals : List Value}
    (hgr : canR ns R ns = G.gr s) (hn : ns.Nodup) (hp : natAt ns 0 = p) (hx : d.dec true (settleL R rest) = some (x, [])) (hv : vecsL R rest = []) (hpre : pre s x)
    (hargs : Reps c.L I w E (.ptr p 0 :: rest) vals) (hr : HR c.L I w E R) (hfree : ∀ q, q < G.n → G.keep q = false → E (base + q) = none) :
    Calls c.P fi vals.toArray w fun en w' => ∃ v I' E', en = .returned v ∧ Post c.L I E R w base (updG G ns base (f s x).1) (one (e.enc (f s x).2)) v w' I' E' := by
  have hlen : ns.length = G.n := by rw [← G.len s, ← hgr, lenR_can]
  have hat : ∀ q, q < G.n → ns[q]? = some (natAt ns q) := fun q hq => by
    rw [natAt_eq, List.getD_eq_getElem?_getD, List.getElem?_eq_getElem (by omega)]; rfl
  obtain ⟨v0, vals', rfl, ha1, ha2⟩ := hargs.inv_cons
  have hr0 : HR c.L I w (E.can ns) (G.gr s) := by rw [← hgr]; exact hr.can hn (by rw [hgr, hlen]; exact G.refs s)
  have e0 : ∀ q, q < G.n → E.can ns q = E (natAt ns q) := fun q hq => by unfold Env.can; rw [hat q hq]; rfl
  have ha1' : Rep c.L I w (E.can ns) (.ptr 0 0) v0 := by
    cases ha1 with
    | ptr he => exact .ptr (by rw [e0 0 G.pos, hp]; exact he)
  have hset := settleL_ok (J := I) (E' := E.can ns) hr ha2 (fun _ h => h) (fun r hr' => by rw [hv] at hr'; simp at hr')
  have hrd := d.reads _ _ _ _ hx c.L I w _ vals' hset
  rw [List.append_nil] at hrd
  obtain ⟨spec, n, hexec⟩ := h s x hpre
  refine (aexecF_ok hΓ hfn hb hexec (Reps.cons ha1' hrd) hr0 (fun r hr' => ?_)).mono ?_
  · rw [G.len] at hr'
    unfold Env.can
    rw [List.getElem?_eq_none (by omega)]; rfl
  · rintro en w' ⟨v, z, R1, I1, E1, rfl, hK, hk⟩
    unfold rdG at hK
    rw [forceNL_eq] at hK
    obtain ⟨I2, q1, q2, q3, q4⟩ := kill_ok hk.hr (vecsA R1 z)
    generalize hns1 : walk (updR R1 (killU (vecsA R1 z))) G.fuel [] [0] = ns1 at hK
    unfold rdGN at hK
    split at hK
    · rename_i s' hs'
      have hgr' := G.dec_ok _ _ hs'
      split at hK
      · rename_i hnd'
        simp only [Bool.and_eq_true] at hnd'
        have hn' := nodupN_iff hnd'.1
        have hlen' : ns1.length = G.n := by rw [← G.len s', ← hgr', lenR_can]
        have hrep := settle_ok (J := I2) (E' := noE) hk.hr hk.rep q1.imm (fun r hr' e' b he hb' => q4 r hr' (vecsA_live _ hr') e' b he hb')
        obtain ⟨b, hQ, hrep'⟩ := rd_ok hK hrep
        have hr2 : HR c.L I2 w' (E1.can ns1) (G.gr s') := by rw [← hgr']; exact q2.can hn' (by rw [hgr', hlen']; exact G.refs s')
        have hext := hk.ext.trans q1
        have hfs : (f s x).1 = s' ∧ (f s x).2 = b := by rw [← hQ]; exact ⟨rfl, rfl⟩
        have o2 : ∀ k, Own (E1.can ns1) (G.gr s') k → Own E1 (updR R1 (killU (vecsA R1 z))) k := fun k hk' => by rw [← hgr'] at hk'; exact (own_can hk').1
        obtain ⟨E', hpost⟩ := graph_back (base := base) (s' := s') (x := one (e.enc b)) (v := v) hr hn hgr hext.fr hext.imm hext.immOld (fun k hk' => hext.ownOld k (o2 k hk')) hr2 (fun q hq hkp => by
            rw [← e0 q hq]
            have hlt : q < ns1.length := by omega
            have := keptB_at hnd'.2 (q := q) (List.getElem?_eq_getElem hlt) (by rw [Nat.zero_add]; exact hkp)
            unfold Env.can
            rw [List.getElem?_eq_getElem hlt, this, Nat.zero_add]
            exact hk.same q (by rw [G.len]; exact hq)) hfree hrep'
        refine ⟨v, I2, E', rfl, ?_⟩
        simp only [hfs.1, hfs.2]
        exact hpost
      · exact hK.elim
    · exact hK.elim

theorem natAt_posN {ns : List Nat} {r : Nat} (h : posN ns r < ns.length) : natAt ns (posN ns r) = r := by
  rw [natAt_eq, List.getD_eq_getElem?_getD, posN_at h]; rfl
mutual
theorem mapN_back {ns : List Nat} : ∀ a : AVal El, refsB ns.length (mapN (posN ns) a) = true → mapN (natAt ns) (mapN (posN ns) a) = a
  | .ptr r o, h => by simp only [mapN, refsB, decide_eq_true_eq] at h ⊢; rw [natAt_posN h]
  | .eptr r s i o, h => by simp only [mapN, refsB, decide_eq_true_eq] at h ⊢; rw [natAt_posN h]
  | .cs r o m, h => by simp only [mapN, refsB, decide_eq_true_eq] at h ⊢; rw [natAt_posN h]
  | .vec r, h => by simp only [mapN, refsB, decide_eq_true_eq] at h ⊢; rw [natAt_posN h]
  | .mapr r, h => by simp only [mapN, refsB, decide_eq_true_eq] at h ⊢; rw [natAt_posN h]
  | .fn f l, h => by simp only [mapN, refsB] at h ⊢; rw [mapNL_back l h]
  | .agg l, h => by simp only [mapN, refsB] at h ⊢; rw [mapNL_back l h]
  | .tup l, h => by simp only [mapN, refsB] at h ⊢; rw [mapNL_back l h]
  | .top, _ => rfl
  | .bool _, _ => rfl
  | .int _ _, _ => rfl
  | .str _, _ => rfl
  | .nilp, _ => rfl
  | .nilf, _ => rfl
  | .nilm, _ => rfl
  | .nils, _ => rfl
  | .anyb, _ => rfl
  | .lptr _ _ _ _ _, _ => rfl
  | .list _ _, _ => rfl
theorem mapNL_back {ns : List Nat} : ∀ l : List (AVal El), refsL ns.length (mapNL (posN ns) l) = true → mapNL (natAt ns) (mapNL (posN ns) l) = l
  | [], _ => rfl
  | a :: l, h => by
    simp only [mapNL, refsL, Bool.and_eq_true] at h ⊢
    rw [mapN_back a h.1, mapNL_back l h.2]
end
theorem mapNR_back {ns : List Nat} {x : Res El} (h : allBR (fun r => decide (r < ns.length)) (mapNR (posN ns) x) = true) : mapNR (natAt ns) (mapNR (posN ns) x) = x := by
  cases x with
  | cells t cs => simp only [mapNR, allBR] at h ⊢; rw [← refs_allBL0] at h; rw [mapNL_back cs h]
  | mapC cs => simp only [mapNR, allBR] at h ⊢; rw [← refs_allBL0] at h; rw [mapNL_back cs h]
  | recs t xs k nm => simp only [mapNR, allBR] at h ⊢; rw [← refs_allBL0] at h; rw [mapNL_back nm h]
  | _ => rfl
/-- Where all names stay and the data are the same, all is as it was. -/
theorem updG_same {S : Type} {G : Gr El S} {R : List (Res El)} {ns : List Nat} {base : Nat} {s : S} (hgr : canR ns R ns = G.gr s) (hn : ns.Nodup) (r : Nat) : getR (updR R (updG G.all ns base s)) r = getR R r := by
  have hlen : ns.length = G.n := by rw [← G.len s, ← hgr, lenR_can]
  have hat : ∀ q, q < G.n → ns[q]? = some (natAt ns q) := fun q hq => by
    rw [natAt_eq, List.getD_eq_getElem?_getD, List.getElem?_eq_getElem (by omega)]; rfl
  have ht : tgt G.all ns base = natAt ns := rfl
  have hl : lenR (G.gr s) = G.n := G.len s
  have hinj : ∀ q q', q < G.n → q' < G.n → natAt ns q = natAt ns q' → q = q' := fun q q' h1 h2 h => by
    have g1 := hat q h1
    have g2 := hat q' h2
    rw [h, ← g2] at g1
    rw [List.getElem?_eq_getElem (by omega), List.getElem?_eq_getElem (by omega)] at g1
    exact (List.getElem_inj hn).1 (Option.some.inj g1)
  obtain ⟨p1, p2⟩ := getR_put (G := G.all) (ns := ns) (base := base) (rs := G.gr s) (q0 := 0) (fun q q' _ h2 _ h4 h => hinj q q' (by omega) (by omega) h) (updR R (killU ns))
  have hupd : updR R (updG G.all ns base s) = updR (updR R (killU ns)) (putU G.all ns base 0 (G.gr s)) := by
    show updR R (appU (killU ns) (putU G.all ns base 0 (G.gr s))) = _
    rw [appU_eq, updR_two]
  rw [hupd]
  by_cases hm : r ∈ ns
  · obtain ⟨q, hq, rfl⟩ := List.getElem_of_mem hm
    have hq' : q < G.n := by omega
    have e1 : natAt ns q = ns[q] := by
      have := hat q hq'
      rw [List.getElem?_eq_getElem hq] at this
      exact (Option.some.inj this).symm
    have := p1 q (Nat.zero_le _) (by omega)
    rw [ht, e1, Nat.sub_zero] at this
    rw [this]
    have hg : getR (G.gr s) q = mapNR (posN ns) (getR R ns[q]) := by rw [← hgr, getR_can, List.getElem?_eq_getElem hq]
    have hb : allBR (fun r => decide (r < ns.length)) (getR (G.gr s) q) = true := by rw [hlen]; exact refsR_one (G.refs s) q
    rw [hg] at hb ⊢
    exact mapNR_back hb
  · rw [p2 r (fun q _ h2 h => hm (by
      have hq' : q < G.n := by omega
      rw [h, ht]
      exact List.mem_of_getElem? (hat q hq'))), getR_kill, if_neg hm]
theorem gread_ok {Γ : FuncId → Option (GSpec El)} (hΓ : ∀ f g, Γ f = some g → GOk c f g) {fi : FuncId} {fn : Func} {code : Code} (hfn : c.P.funcs[fi]? = some fn) (hb : fn.body = some code)
    (henter : ∀ args w, (callFunc fi args).run c.P w = .ok (.enter fi args) w) {S α β : Type} {G : Gr El S} {d : Cd El α} {e : Cd El β} {pre : S → α → Prop} {f : S → α → β}
    (h : ∀ s x, pre s x → ∃ spec n, aexecF cnd c Γ spec n fn code (.ptr 0 0 :: d.enc x) (G.gr s) (fun y R => rdG G.all e y R (fun s' b => (s', b) = (s, f s x)))) : GOk c fi (gread G d e pre f) := by
  refine ⟨henter, fun args R base y ho I E w vals hargs hr hfree => ?_⟩
  unfold gread at ho
  split at ho
  · rename_i p rest
    rw [forceNL_eq] at ho
    generalize hns : walk R G.fuel [] [p] = ns at ho
    unfold greadN at ho
    split at ho
    · rename_i s hs
      have hgr := G.dec_ok _ _ hs
      split at ho
      · rename_i hnd
        simp only [Bool.and_eq_true] at hnd
        have hn := nodupN_iff hnd.1
        have hp := Nat.eq_of_beq_eq_true hnd.2
        split at ho
        · rename_i x hx hv
          obtain ⟨hpre, ho⟩ := ho
          simp only [Tree.Out] at ho
          have hy := ho.symm
          subst hy
          refine (gcall_core (G := G.all) (f := fun s x => (s, f s x)) (base := base) hΓ hfn hb h hgr hn hp hx hv hpre hargs hr (fun q _ hk => by cases hk)).mono ?_
          rintro en w' ⟨v, I', E', rfl, hpost⟩
          have hsame := updG_same (base := base) hgr hn
          have hlen : ns.length = G.n := by rw [← G.len s, ← hgr, lenR_can]
          have hE : E' = E := by
            funext r
            by_cases hm : ∃ x, (r, x) ∈ updG G.all ns base s
            · have hin : r ∈ ns := by
                obtain ⟨x, hx⟩ := hm
                have hx : (r, x) ∈ appU (killU ns) (putU G.all ns base 0 (G.gr s)) := hx
                rw [appU_eq] at hx
                rcases List.mem_append.1 hx with hx | hx
                · have key : ∀ (l : List Nat), (r, x) ∈ (killU l : List (Nat × Res El)) → r ∈ l := by
                    intro l
                    induction l with
                    | nil => intro h; simp [killU] at h
                    | cons a l ih =>
                      intro h
                      simp only [killU, List.mem_cons, Prod.mk.injEq] at h
                      rcases h with ⟨h, _⟩ | h
                      · rw [h]; exact List.mem_cons_self
                      · exact List.mem_cons_of_mem _ (ih h)
                  exact key ns hx
                · have key : ∀ (rs : List (Res El)) (q0 : Nat), q0 + lenR rs ≤ ns.length → (r, x) ∈ putU G.all ns base q0 rs → r ∈ ns := by
                    intro rs
                    induction rs with
                    | nil => intro q0 _ h; simp [putU] at h
                    | cons y rs ih =>
                      intro q0 hl h
                      simp only [lenR] at hl
                      simp only [putU, List.mem_cons, Prod.mk.injEq] at h
                      rcases h with ⟨h, _⟩ | h
                      · have : r = natAt ns q0 := h
                        rw [this, natAt_eq, List.getD_eq_getElem?_getD, List.getElem?_eq_getElem (by omega)]
                        exact List.getElem_mem _
                      · exact ih (q0 + 1) (by omega) h
                  exact key _ 0 (by rw [G.len]; omega) hx
              obtain ⟨q, hq, rfl⟩ := List.getElem_of_mem hin
              have hl := G.live s q (by omega)
              rw [← hgr, getR_can, List.getElem?_eq_getElem hq] at hl
              obtain ⟨e, he, _⟩ := hr.res _ (mapNR_dead hl)
              rw [he]; exact hpost.ext.env _ e he
            · exact hpost.names r (fun x hx => absurd ⟨x, hx⟩ hm)
          subst hE
          have hown : ∀ b, Own E' R b → Own E' (updR R (updG G.all ns base s)) b := fun b ⟨r, e, h1, h2, h3⟩ => ⟨r, e, by rw [hsame]; exact h1, h2, h3⟩
          refine ⟨v, I', E', rfl, ⟨hpost.ext.imm, Env.le_refl _, hpost.ext.fr, hpost.ext.immOld, fun b h => .inl h⟩, hpost.hr.congr (fun r => (hsame r).symm), hpost.rep, fun r _ => rfl⟩
        · exact ho.elim
      · exact ho.elim
    · exact ho.elim
  · exact ho.elim
end
end Go.Ax
end

/- A verified symbolic executor, part 23: arguments, as a statement hands them, stand for abstract values; a row out of an executed function. Over any program; no condition. -/
section
set_option linter.unusedVariables false
set_option linter.unusedSimpArgs false
namespace Go.Ax
open Go.ChangeShapes Go.RowKit
variable {El : TypeId → Type}

def Old (w : World) (b : Nat) : Prop := b < w.heap.size

section
variable {P : Program} {L : Lay El}

/-- A type's cells, read as data, stand for a code's. -/
def Opn (P : Program) (L : Lay El) (t : TypeId) {α : Type} (d : Cd El α) (ok : α → Prop) : Prop :=
  ∀ (H : Type) (enc : TypeId × Value → H) (w : World) (fuel : Nat) (cs : List Value) (x : DataW H × List MemPlace), DataW.trod enc P w 0 (fun _ => true) true fuel t cs = some x →
    ∃ a, Reps L (Old w) w noE (d.enc a) cs ∧ (∀ v ∈ cs, v.oneCell' = true) ∧ ok a

/-- Parts that lie one behind the other. -/
def OpnF (P : Program) (L : Lay El) (fs : List (Nat × TypeId)) (o n : Nat) {α : Type} (d : Cd El α) (ok : α → Prop) : Prop :=
  ∀ (H : Type) (enc : TypeId × Value → H) (w : World) (fuel : Nat) (cs : List Value), cs.length = n →
    (∀ f ∈ fs, ∃ x, DataW.trod enc P w 0 (fun _ => true) true fuel f.2 ((cs.drop f.1).take (P.cellsOf f.2)) = some x) →
    ∃ a, Reps L (Old w) w noE (d.enc a) (cs.drop o) ∧ (∀ v ∈ cs.drop o, v.oneCell' = true) ∧ ok a

theorem Opn.int {t : TypeId} {k : IntKind} (ht : P.underlying t = some (.int k)) : Opn P L t (Cd.int k) (fun n => (Lit.int k n).wf = true) := by
  intro H enc w fuel cs x h
  obtain ⟨n, rfl, _, hw⟩ := DataW.trod_int ht h
  exact ⟨n, Reps.cons .int Reps.nil, by simp [Value.oneCell'], hw⟩
theorem Opn.bool {t : TypeId} (ht : P.underlying t = some .bool) : Opn P L t Cd.bool (fun _ => True) := by
  intro H enc w fuel cs x h
  obtain ⟨b, rfl, _⟩ := DataW.trod_bool ht h
  exact ⟨b, Reps.cons .bool Reps.nil, by simp [Value.oneCell'], trivial⟩
theorem Opn.iso {t : TypeId} {α β : Type} {d : Cd El α} {ok : α → Prop} (h : Opn P L t d ok) (f : α → β) (g : β → α) (hg : ∀ x, g (f x) = x) : Opn P L t (d.iso f g hg) (fun b => ok (g b)) := by
  intro H enc w fuel cs x hx
  obtain ⟨a, h1, h2, h3⟩ := h H enc w fuel cs x hx
  exact ⟨f a, by simpa only [Cd.iso, hg] using h1, h2, by show ok (g (f a)); rw [hg]; exact h3⟩
theorem OpnF.last {t : TypeId} {o n : Nat} {α : Type} {d : Cd El α} {ok : α → Prop} (h : Opn P L t d ok) (hn : n = o + P.cellsOf t) : OpnF P L [(o, t)] o n d ok := by
  intro H enc w fuel cs hl hf
  obtain ⟨x, hx⟩ := hf (o, t) (by simp)
  have e : (cs.drop o).take (P.cellsOf t) = cs.drop o := List.take_of_length_le (by simp; omega)
  simp only at hx
  rw [e] at hx
  exact h H enc w fuel _ x hx
theorem OpnF.cons {t : TypeId} {fs : List (Nat × TypeId)} {o o' n : Nat} {α β : Type} {d : Cd El α} {d' : Cd El β} {ok : α → Prop} {ok' : β → Prop} (h : Opn P L t d ok) (ho : o' = o + P.cellsOf t) (hs : OpnF P L fs o' n d' ok') :
    OpnF P L ((o, t) :: fs) o n (d.pair d') (fun a => ok a.1 ∧ ok' a.2) := by
  intro H enc w fuel cs hl hf
  obtain ⟨x, hx⟩ := hf (o, t) (by simp)
  obtain ⟨a, a1, a2, a3⟩ := h H enc w fuel _ x hx
  obtain ⟨b, b1, b2, b3⟩ := hs H enc w fuel cs hl (fun f hf' => hf f (by simp [hf']))
  have e : cs.drop o = (cs.drop o).take (P.cellsOf t) ++ cs.drop o' := by
    rw [ho, ← List.drop_drop, List.take_append_drop]
  refine ⟨(a, b), ?_, ?_, a3, b3⟩
  · rw [e]; exact a1.append b1
  · intro v hv
    rw [e] at hv
    rcases List.mem_append.1 hv with hv | hv
    · exact a2 v hv
    · exact b2 v hv
theorem OpnF.iso {fs : List (Nat × TypeId)} {o n : Nat} {α β : Type} {d : Cd El α} {ok : α → Prop} (h : OpnF P L fs o n d ok) (f : α → β) (g : β → α) (hg : ∀ x, g (f x) = x) : OpnF P L fs o n (d.iso f g hg) (fun b => ok (g b)) := by
  intro H enc w fuel cs hl hf
  obtain ⟨a, h1, h2, h3⟩ := h H enc w fuel cs hl hf
  exact ⟨f a, by simpa only [Cd.iso, hg] using h1, h2, by show ok (g (f a)); rw [hg]; exact h3⟩
theorem Opn.struct {t : TypeId} {fs : Array Field} (ht : P.underlying t = some (.struct fs)) {α : Type} {d : Cd El α} {ok : α → Prop} (h : OpnF P L (fs.toList.map fun f => (f.offset, f.type)) 0 (P.cellsOf t) d ok) : Opn P L t d ok := by
  intro H enc w fuel cs x hx
  obtain ⟨xs, n, rfl, _, hl, hlen, hat⟩ := DataW.trod_struct ht hx
  have := h H enc w n cs hl (fun f hf => by
    obtain ⟨g, hg, rfl⟩ := List.mem_map.1 hf
    obtain ⟨i, hi, hgi⟩ := List.getElem_of_mem hg
    have hi' : i < fs.size := by simpa using hi
    have h1 := hat i g (by rw [Array.getElem?_eq_getElem hi']; simpa using hgi)
    rw [List.getElem?_eq_getElem (by omega)] at h1
    exact ⟨_, h1⟩)
  simpa using this
theorem Opn.array {t e : TypeId} {n : Nat} (ht : P.underlying t = some (.array n e)) {α : Type} {d : Cd El α} {ok : α → Prop} (h : OpnF P L ((List.range n).map fun i => (i * P.cellsOf e, e)) 0 (P.cellsOf t) d ok) : Opn P L t d ok := by
  intro H enc w fuel cs x hx
  obtain ⟨xs, m, rfl, _, hl, hlen, hat⟩ := DataW.trod_array ht hx
  have := h H enc w m cs hl (fun f hf => by
    obtain ⟨i, hi, rfl⟩ := List.mem_map.1 hf
    have hi' : i < n := by simpa using hi
    have h1 := hat i hi'
    rw [List.getElem?_eq_getElem (by omega)] at h1
    exact ⟨_, h1⟩)
  simpa using this

theorem cell_heap {w : World} {a : Addr} {v : Value} (h : w.cell? a = some v) : a.spot = none ∧ ∃ cells ty fz, w.heap[a.block]? = some (.cells cells ty fz) ∧ cells[a.off]? = some v := by
  unfold World.cell? at h
  split at h
  · rename_i c ty fz hb
    split at h
    · cases h
    · rename_i hs
      refine ⟨by simpa using hs, c, ty, fz, hb, h⟩
  · cases h

theorem build_list {α : Type} (n : Nat) (Φ : Nat → α → Prop) (h : ∀ i, i < n → ∃ a, Φ i a) : ∃ l : List α, l.length = n ∧ ∀ i a, l[i]? = some a → Φ i a := by
  induction n with
  | zero => exact ⟨[], rfl, fun i a ha => by simp at ha⟩
  | succ n ih =>
    obtain ⟨l, hl, hh⟩ := ih (fun i hi => h i (by omega))
    obtain ⟨a, ha⟩ := h n (by omega)
    refine ⟨l ++ [a], by simp [hl], fun i b hb => ?_⟩
    by_cases hi : i < l.length
    · rw [List.getElem?_append_left hi] at hb; exact hh i b hb
    · rw [List.getElem?_append_right (by omega)] at hb
      have : i = n := by
        rcases Nat.lt_or_ge (i - l.length) 1 with h1 | h1
        · omega
        · rw [List.getElem?_eq_none (by simpa using h1)] at hb; cases hb
      subst this
      simp [hl] at hb
      subst hb; exact ha

theorem Opn.slice {t e : TypeId} (ht : P.underlying t = some (.slice e)) (d : Cd El (El e)) (hd : ∀ x, L.enc e x = d.enc x) (hsz : P.cellsOf e = L.sz e) (hpos : 0 < L.sz e) {ok : El e → Prop} (he : Opn P L e d ok) :
    Opn P L t (Cd.list e) (fun xs => xs.length ≤ 9223372036854775807 ∧ ∀ x ∈ xs, ok x) := by
  intro H enc w fuel cs x h
  rcases DataW.trod_slice ht h with ⟨rfl, _⟩ | ⟨a, len, cap, elems, rest, n, rfl, rfl, _, _, hlc, hcap, hel, hat, _, _⟩
  · exact ⟨[], Reps.cons .listNil Reps.nil, by simp [Value.oneCell'], by simp⟩
  · have hmax : cap ≤ 9223372036854775807 := hcap
    obtain ⟨xs, hxl, hx⟩ := build_list (α := El e × List Value) len (fun i p => w.cells? 0 (a.add (i * P.cellsOf e)) (P.cellsOf e) = some p.2 ∧ Reps L (Old w) w noE (d.enc p.1) p.2 ∧ (∀ v ∈ p.2, v.oneCell' = true) ∧ ok p.1) (fun i hi => by
      have h1 := hat i hi
      rw [List.getElem?_eq_getElem (by omega)] at h1
      obtain ⟨ecs, h2, h3⟩ := Option.bind_eq_some_iff.1 h1
      obtain ⟨b, b1, b2, b3⟩ := he H enc w n ecs _ h3
      exact ⟨(b, ecs), h2, b1, b2, b3⟩)
    refine ⟨xs.map (·.1), Reps.cons ?_ Reps.nil, by simp [Value.oneCell'], by simp only [List.length_map]; omega, fun y hy => ?_⟩
    · by_cases h0 : len = 0
      · subst h0
        obtain rfl : xs = [] := List.length_eq_zero_iff.1 hxl
        exact .listNil
      · -- the first cell tells the block
        have cell : ∀ i, i < len → ∀ j, j < L.sz e → ∃ v, (xs.getD i (L.dflt e, [])).2[j]? = some v ∧ w.cell? (a.add (i * L.sz e + j)) = some v ∧ v.oneCell' = true := by
          intro i hi j hj
          have hi' : i < xs.length := by omega
          have g := hx i xs[i] (List.getElem?_eq_getElem hi')
          obtain ⟨_, g2, g3⟩ := World.cells?_some g.1
          have e1 : xs.getD i (L.dflt e, []) = xs[i] := by rw [List.getD_eq_getElem?_getD, List.getElem?_eq_getElem hi']; rfl
          rw [e1]
          have hj' : j < xs[i].2.length := by rw [g2, hsz]; exact hj
          refine ⟨xs[i].2[j], List.getElem?_eq_getElem hj', ?_, g.2.2.1 _ (List.getElem_mem hj')⟩
          have := g3 j (by rw [hsz]; exact hj)
          rw [List.getElem?_eq_getElem hj', hsz] at this
          rw [← this]
          have ea : a.add (i * L.sz e + j) = (a.add (i * L.sz e)).add j := by
            unfold Addr.add
            by_cases h1 : i * L.sz e = 0
            · simp [h1]
            · by_cases h2 : j = 0
              · simp [h2]
              · rw [if_neg (by omega), if_neg h1, if_neg h2]; simp [Nat.add_assoc]
          rw [ea]
        obtain ⟨v0, _, hc0, _⟩ := cell 0 (by omega) 0 hpos
        obtain ⟨hs0, cells, ty, fz, hb0, _⟩ := cell_heap hc0
        obtain ⟨blk, off, spot⟩ := a
        have hsp : spot = none := by
          cases spot with
          | none => rfl
          | some q => simp [Addr.add] at hs0
        subst hsp
        have hb : w.heap[blk]? = some (.cells cells ty fz) := by simpa [Addr.add] using hb0
        have hlt : blk < w.heap.size := by
          rcases Nat.lt_or_ge blk w.heap.size with h' | h'
          · exact h'
          · rw [Array.getElem?_eq_none h'] at hb; cases hb
        refine .list (vals := fun i j => ((xs.getD i (L.dflt e, [])).2[j]?).getD undef) hlt hb (by simp [hxl]) hlc ?_ ?_
        · intro i j hi hj
          obtain ⟨v, h1, h2, h3⟩ := cell i (by simpa [hxl] using hi) j hj
          rw [h1]
          obtain ⟨_, cells', ty', fz', hb', hc'⟩ := cell_heap h2
          have e2 : (Addr.add ⟨blk, off, none⟩ (i * L.sz e + j)).block = blk := by rw [Go.WideShapes.add_plain]
          have e3 : (Addr.add ⟨blk, off, none⟩ (i * L.sz e + j)).off = off + i * L.sz e + j := by rw [Go.WideShapes.add_plain]; exact (Nat.add_assoc _ _ _).symm
          rw [e2, hb] at hb'
          cases hb'
          rw [e3] at hc'
          exact ⟨hc', h3⟩
        · intro i y hy j c hc
          rw [List.getElem?_map] at hy
          cases hxi : xs[i]? with
          | none => rw [hxi] at hy; cases hy
          | some p =>
            rw [hxi] at hy
            cases hy
            have g := hx i p hxi
            rw [hd] at hc
            have e1 : xs.getD i (L.dflt e, []) = p := by rw [List.getD_eq_getElem?_getD, hxi]; rfl
            rw [e1]
            have hjl : j < p.2.length := by
              rw [← g.2.1.len]
              rcases Nat.lt_or_ge j (d.enc p.1).length with h' | h'
              · exact h'
              · rw [List.getElem?_eq_none h'] at hc; cases hc
            rw [List.getElem?_eq_getElem hjl]
            exact g.2.1.at_ j c _ hc (List.getElem?_eq_getElem hjl)
    · obtain ⟨p, hp, rfl⟩ := List.mem_map.1 hy
      obtain ⟨i, hi, rfl⟩ := List.getElem_of_mem hp
      exact (hx i _ (List.getElem?_eq_getElem hi)).2.2.2

theorem OpnF.mono {fs : List (Nat × TypeId)} {o n : Nat} {α : Type} {d : Cd El α} {ok ok' : α → Prop} (h : OpnF P L fs o n d ok) (hi : ∀ a, ok a → ok' a) : OpnF P L fs o n d ok' := fun H enc w fuel cs hl hf => by
  obtain ⟨a, h1, h2, h3⟩ := h H enc w fuel cs hl hf
  exact ⟨a, h1, h2, hi a h3⟩
theorem Opn.mono {t : TypeId} {α : Type} {d : Cd El α} {ok ok' : α → Prop} (h : Opn P L t d ok) (hi : ∀ a, ok a → ok' a) : Opn P L t d ok' := fun H enc w fuel cs x hx => by
  obtain ⟨a, h1, h2, h3⟩ := h H enc w fuel cs x hx
  exact ⟨a, h1, h2, hi a h3⟩

/-- One argument. -/
def OpnV (P : Program) (L : Lay El) (t : TypeId) {α : Type} (d : Cd El α) (ok : α → Prop) : Prop :=
  ∀ (H : Type) (enc : TypeId × Value → H) (w : World) (base : Nat) (v : Value) (dd : DataW H) (ps : List MemPlace), DataW.Trod enc P w 0 (fun _ => true) true t v dd ps → Value.okWide P w .any base t v →
    ∃ a, Reps L (Old w) w noE (d.enc a) [v] ∧ ok a
theorem OpnV.agg {t : TypeId} {α : Type} {d : Cd El α} {ok : α → Prop} (h : Opn P L t d ok) (ha : isAggT P t = some true) : OpnV P L t d.agg ok := by
  intro H enc w base v dd ps ⟨fuel, hf⟩ hv
  obtain ⟨cs, rfl⟩ : ∃ cs, v = .agg cs := by
    unfold isAggT at ha
    unfold Value.okWide at hv
    split at hv
    · obtain ⟨cs, h1, _⟩ := hv; exact ⟨cs, h1⟩
    · obtain ⟨cs, h1, _⟩ := hv; exact ⟨cs, h1⟩
    · rename_i h1 h2
      split at ha
      · rename_i fs hfs; exact absurd hfs (h1 _)
      · rename_i n e hfs; exact absurd hfs (h2 _ _)
      · cases ha
      · cases ha
  obtain ⟨a, h1, h2, h3⟩ := h H enc w fuel _ _ hf
  refine ⟨a, Reps.cons ?_ Reps.nil, h3⟩
  have := h1.agg h2
  simpa [Value.cells] using this
theorem OpnV.one {t : TypeId} {α : Type} {d : Cd El α} {ok : α → Prop} (h : Opn P L t d ok) (ha : isAggT P t = some false) : OpnV P L t d ok := by
  intro H enc w base v dd ps ⟨fuel, hf⟩ hv
  have hn : ∀ cs, v ≠ .agg cs := by
    rintro cs rfl
    unfold isAggT at ha
    unfold Value.okWide at hv
    split at hv
    · rename_i h1; rw [h1] at ha; cases ha
    · rename_i h1; rw [h1] at ha; cases ha
    · unfold Cell.okWide at hv
      split at hv <;> try cases ‹Value.agg cs = _›
      unfold Cell.ok at hv
      split at hv <;> first | cases ‹Value.agg cs = _› | exact hv.elim
  obtain ⟨a, h1, h2, h3⟩ := h H enc w fuel _ _ hf
  have e : v.cells.toList = [v] := by
    cases v with
    | agg cs => exact absurd rfl (hn cs)
    | _ => rfl
  rw [e] at h1
  exact ⟨a, h1, h3⟩

/-- All arguments. -/
def OpnL (P : Program) (L : Lay El) (ts : List TypeId) {α : Type} (d : Cd El α) (ok : α → Prop) : Prop :=
  ∀ (H : Type) (enc : TypeId × Value → H) (w : World) (base : Nat) (vs : List Value) (ds : List (DataW H)) (ps : List MemPlace), DataW.TrodAll enc P w 0 (fun _ => true) true ts vs ds ps →
    (∀ (j : Nat) t v, ts[j]? = some t → vs[j]? = some v → Value.okWide P w .any base t v) → ∃ a, Reps L (Old w) w noE (d.enc a) vs ∧ ok a
theorem OpnL.last {t : TypeId} {α : Type} {d : Cd El α} {ok : α → Prop} (h : OpnV P L t d ok) : OpnL P L [t] d ok := by
  intro H enc w base vs ds ps ht hv
  obtain ⟨v, vs', d', ds', p, q, rfl, rfl, rfl, h1, h2⟩ := trodAll_cons ht
  obtain ⟨rfl, rfl, rfl⟩ := trodAll_nil h2
  exact h H enc w base v d' p h1 (hv 0 t v rfl rfl)
theorem OpnL.cons {t : TypeId} {ts : List TypeId} {α β : Type} {d : Cd El α} {d' : Cd El β} {ok : α → Prop} {ok' : β → Prop} (h : OpnV P L t d ok) (hs : OpnL P L ts d' ok') : OpnL P L (t :: ts) (d.pair d') (fun a => ok a.1 ∧ ok' a.2) := by
  intro H enc w base vs ds ps ht hv
  obtain ⟨v, vs', dd, ds', p, q, rfl, rfl, rfl, h1, h2⟩ := trodAll_cons ht
  obtain ⟨a, a1, a2⟩ := h H enc w base v dd p h1 (hv 0 t v rfl rfl)
  obtain ⟨b, b1, b2⟩ := hs H enc w base vs' ds' q h2 (fun j t' v' hj hv' => hv (j + 1) t' v' (by simpa using hj) (by simpa using hv'))
  exact ⟨(a, b), a1.append b1, a2, b2⟩
theorem OpnL.iso {ts : List TypeId} {α β : Type} {d : Cd El α} {ok : α → Prop} (h : OpnL P L ts d ok) (f : α → β) (g : β → α) (hg : ∀ x, g (f x) = x) : OpnL P L ts (d.iso f g hg) (fun b => ok (g b)) := by
  intro H enc w base vs ds ps ht hv
  obtain ⟨a, h1, h2⟩ := h H enc w base vs ds ps ht hv
  exact ⟨f a, by simpa only [Cd.iso, hg] using h1, by show ok (g (f a)); rw [hg]; exact h2⟩
end

/-- Arguments read behind the call as they did before it. -/
theorem carry_all {H : Type} {enc : TypeId × Value → H} {P : Program} (hl : laidOutB P = true) {W W' : World} (hb : Below W.heap.size W W') : ∀ {ts : List TypeId} {vs : List Value} {ds : List (DataW H)} {ps : List MemPlace},
    (∀ t ∈ ts, P.readableRec t = true ∧ t < P.types.size) → DataW.TrodAll enc P W 0 (fun _ => true) true ts vs ds ps → DataW.TrodAll enc P W' 0 (fun b => decide (b < W.heap.size)) true ts vs ds ps
  | [], [], [], _, _, h => h
  | t :: ts, v :: vs, d :: ds, ps, hr, h => by
    have hlt := h.lt
    obtain ⟨p, q, h1, h2, rfl⟩ := h
    exact ⟨p, q, Below.trod hl (hr t (by simp)).1 (hr t (by simp)).2 h1 hb (fun x hx => hlt x (by simp [hx])), carry_all hl hb (fun t' ht' => hr t' (by simp [ht'])) h2, rfl⟩

def readable (P : Program) (ts : List TypeId) : Bool := ts.all fun t => P.readableRec t && decide (t < P.types.size)

section
variable {c : Cx El} {Γ : FuncId → Option (GSpec El)}

theorem HR.none {L : Lay El} {w : World} : HR L (Old w) w noE ([] : List (Res El)) where
  res r hr := absurd rfl hr
  apart r r' e e' b hr := absurd rfl hr
  notI b := fun ⟨r, e, hr, _⟩ => absurd rfl hr
  old b hb := hb

/-- A row: the law comes back true, its arguments read as they did. -/
theorem row_ok {C : Checked} {os : Os} {f : FuncId} {fn : Func} {code : Code} {s : ChangeSpec} {conds : List PathCond} {ts : List TypeId} {tb : TypeId} {H : Type} {enc : TypeId × Value → H}
    (own : ownKnob C.prog.godebug = none) (started : os.Started) (noInit : C.prog.inits.idxOf? f = none) (hfn : C.prog.funcs[f]? = some fn) (hb : fn.body = some code)
    (hts : fn.params.toList = ts) (htb : fn.resultTypes.toList = [tb]) (hbool : C.prog.underlying tb = some .bool) (hvars : s.vars = [])
    (hs : ∀ ds : List (DataW H), ds.length = ts.length → s.fn H ds = { results := [.lit (.bool true)], args := ds })
    (witness : ∃ (w : World) (tape : Tape) (i : Input), w.os = os ∧ (w.forCall tape i).Shaped C.prog ∧ i.vars = [] ∧ Input.okWide C.prog (w.forCall tape i) .any w.heap.size f i ∧
      s.pre6 enc C.prog fn conds false (w.forCall tape i).memory i.args ∧ ({} : Assume).holds C.prog (lone (Frame.enter C.prog f i.args .normal) [] (w.forCall tape i)))
    (hlaid : laidOutB C.prog = true) (hread : readable C.prog ts = true) (hc : c.P = C.prog)
    {α : Type} {d : Cd El α} {ok : α → Prop} (hopen : OpnL C.prog c.L ts d ok) {spec : α → Nat → Option (St El → LSpec El)}
    (hΓ : ∀ f g, Γ f = some g → GOk c f g) {n : Nat} (hexec : ∀ a, ok a → aexecF cnd c Γ (spec a) n fn code (d.enc a) [] (fun y _ => y = .bool true)) :
    ReturnsInHanded {} C os f .any (s.pre6 enc C.prog fn conds false) (s.post enc C.prog fn false true false false) := by
  refine returnsInHanded_of_change_sized (C := C) own started noInit hfn witness ?_
  intro W base args ds gs before hval hW hcnd hsz _
  have hW' := hW
  obtain ⟨p, q, hA, hV, rfl, hfz, hnd⟩ := hW
  rw [hvars] at hV
  obtain ⟨rfl, rfl⟩ := trodVars_none hV
  rw [hts] at hA
  obtain ⟨a, h1, h2⟩ := hopen H enc W base args.toList ds p hA (fun j t v hj hv => hval j t v (by rw [← hts] at hj; simpa using hj) (by simpa using hv))
  have hx := aexecF_ok hΓ (by rw [hc]; exact hfn) hb (hexec a h2) h1 HR.none (fun r _ => rfl)
  rw [hc] at hx
  refine (hx.mono fun e W' ⟨v, y, R', I', E', he, hy, hk⟩ => ?_)
  subst he
  subst hy
  have hv := hk.rep
  cases hv
  have bel : Below W.heap.size W W' := ⟨hk.ext.fr.os, hk.ext.fr.tape, hk.ext.fr.output, hk.ext.fr.size, fun b hb => hk.ext.fr.block b hb (fun ⟨r, e, hr, _⟩ => absurd rfl hr)⟩
  have hlen : ds.length = ts.length := by
    clear h1 h2 hval hcnd hsz hW' hx
    have : ∀ {ts : List TypeId} {vs : List Value} {ds : List (DataW H)} {ps : List MemPlace}, DataW.TrodAll enc C.prog W 0 (fun _ => true) true ts vs ds ps → ds.length = ts.length := by
      intro ts
      induction ts with
      | nil => intro vs ds ps h; obtain ⟨rfl, rfl, rfl⟩ := trodAll_nil h; rfl
      | cons t ts ih =>
        intro vs ds ps h
        obtain ⟨v, vs', d', ds', p, q, rfl, rfl, rfl, _, h2⟩ := trodAll_cons h
        simp [ih h2]
    exact this hA
  have hrs : fn.resultTypes.size = 1 := by
    have := congrArg List.length htb
    simpa using this
  have hsf : s.fn H (ds ++ []) = { results := [.lit (.bool true)], args := ds } := by rw [List.append_nil]; exact hs ds hlen
  refine ⟨_, rfl, ds, [], _, [], p, [], hW', ?_, ?_, ?_, bel.frame _, fun h => by cases h⟩
  · rw [hsf, htb, hrs]
    exact trodAll_mk1 (shut_bool hbool _)
  · rw [hsf, hts]
    exact carry_all hlaid bel (fun t ht => by
      have := List.all_eq_true.1 hread t ht
      simp only [Bool.and_eq_true, decide_eq_true_eq] at this
      exact this) hA
  · rw [hsf, hvars]; rfl
end
end Go.Ax
end
