/- Parts of the proof, in one file: further parts. No condition. -/
import Derived.Test.YtaeepogbgflbpaaGreatM6
import Derived.Laws.BitsLemmas
import Derived.RowKit

/- Many picks: what the function computes, printed, and its contract. No condition. -/
section
set_option linter.unusedVariables false
set_option linter.unusedSimpArgs false
set_option maxRecDepth 100000
set_option maxHeartbeats 4000000
namespace Go.Proofs.YtaeepogbgflbpaaGreat
open Go Go.Ax

theorem vc_run (K : Hl → Unit → Prop) (h : Hl) (picks : List Int) : aexecF cnd cx ΓQ (specRun h picks) 100 Tryz.f13 (codeOf Tryz.f13) (.ptr 0 0 :: aL.enc picks) (GH.gr h) (fun y R => rdG GH Cd.unit y
  R K) = ( (∃ (s0 : Nat), s0 ≤ List.length picks ∧ (EqA (AVal.int .i64 0) (AVal.int .i64 (↑s0 : Int)) ∧ True) ∧ ((True ∧ True ∧ True ∧ True ∧ EqA (AVal.int .i64 h.tick) (AVal.int .i64 (stR h picks
  s0).tick) ∧ True) ∧ EqR (Res.cells 103 [AVal.int .i64 h.m.c.w, AVal.int .i64 h.m.c.s, AVal.int .i64 h.m.c.b, AVal.int .i64 h.m.c.o, AVal.int .i64 h.m.c.e, AVal.int .i64 h.m.c.r, AVal.int .i64 h.m.c.a,
  AVal.int .u64 h.m.c.l, AVal.int .i64 h.m.seen.kind, AVal.int .i64 h.m.seen.at_, AVal.int .u64 h.m.seen.x, AVal.int .u64 h.m.seen.y, AVal.int .u64 h.m.seen.old, AVal.vec 4]) (Res.cells 103 [AVal.int
  .i64 (stR h picks s0).m.c.w, AVal.int .i64 (stR h picks s0).m.c.s, AVal.int .i64 (stR h picks s0).m.c.b, AVal.int .i64 (stR h picks s0).m.c.o, AVal.int .i64 (stR h picks s0).m.c.e, AVal.int .i64 (stR
  h picks s0).m.c.r, AVal.int .i64 (stR h picks s0).m.c.a, AVal.int .u64 (stR h picks s0).m.c.l, AVal.int .i64 (stR h picks s0).m.seen.kind, AVal.int .i64 (stR h picks s0).m.seen.at_, AVal.int .u64 (stR
  h picks s0).m.seen.x, AVal.int .u64 (stR h picks s0).m.seen.y, AVal.int .u64 (stR h picks s0).m.seen.old, AVal.vec 4]) ∧ (EqR (Res.recs 59 h.l 35 []) (Res.recs 59 (stR h picks s0).l 35 []) ∧ True ∧
  True ∧ True ∧ True ∧ True ∧ True ∧ True ∧ True ∧ True) ∧ EqR (Res.vec 22 h.m.ws) (Res.vec 22 (stR h picks s0).m.ws) ∧ EqR (Res.vec 45 h.ev) (Res.vec 45 (stR h picks s0).ev) ∧ EqR (Res.vec 22
  h.told.t0) (Res.vec 22 (stR h picks s0).told.t0) ∧ EqR (Res.vec 22 h.told.t1) (Res.vec 22 (stR h picks s0).told.t1) ∧ EqR (Res.vec 22 h.told.t2) (Res.vec 22 (stR h picks s0).told.t2) ∧ EqR (Res.vec 22
  h.told.t3) (Res.vec 22 (stR h picks s0).told.t3) ∧ EqR (Res.vec 22 h.told.t4) (Res.vec 22 (stR h picks s0).told.t4) ∧ EqR (Res.vec 22 h.told.t5) (Res.vec 22 (stR h picks s0).told.t5) ∧ EqR (Res.vec 22
  h.told.t6) (Res.vec 22 (stR h picks s0).told.t6) ∧ EqR (Res.vec 22 h.told.t7) (Res.vec 22 (stR h picks s0).told.t7) ∧ True) ∧ True) ∧ ∀ (s : Nat), s ≤ List.length picks → cnd (decide ((↑s : Int) <
  (↑(List.length picks) : Int))) (((0 : Int) ≤ (↑s : Int) ∧ (↑s : Int) < (↑(List.length picks) : Int)) ∧ (Fine (stR h picks s) ∧ (isW (stR h picks s) (List.getD picks (Int.toNat (↑s : Int)) (0 : Int)) =
  true → ((wrAt (stR h picks s) (List.getD picks (Int.toNat (↑s : Int)) (0 : Int))).x.give = false ∧ (wrAt (stR h picks s) (List.getD picks (Int.toNat (↑s : Int)) (0 : Int))).x.line ∈ linesF ∨ (wrAt
  (stR h picks s) (List.getD picks (Int.toNat (↑s : Int)) (0 : Int))).x.give = true ∧ (wrAt (stR h picks s) (List.getD picks (Int.toNat (↑s : Int)) (0 : Int))).x.line ∈ linesT) ∨ (wrAt (stR h picks s)
  (List.getD picks (Int.toNat (↑s : Int)) (0 : Int))).x.line = (0 : Int))) ∧ ∃ (s' : Nat), s' ≤ List.length picks ∧ List.length picks - s' < List.length picks - s ∧ (EqA (AVal.int .i64 (wr ((↑s : Int) +
  (1 : Int)))) (AVal.int .i64 (↑s' : Int)) ∧ True) ∧ ((True ∧ True ∧ True ∧ True ∧ EqA (AVal.int .i64 (pickH (stR h picks s) (List.getD picks (Int.toNat (↑s : Int)) (0 : Int))).tick) (AVal.int .i64 (stR
  h picks s').tick) ∧ True) ∧ EqR (Res.cells 103 [AVal.int .i64 (pickH (stR h picks s) (List.getD picks (Int.toNat (↑s : Int)) (0 : Int))).m.c.w, AVal.int .i64 (pickH (stR h picks s) (List.getD picks
  (Int.toNat (↑s : Int)) (0 : Int))).m.c.s, AVal.int .i64 (pickH (stR h picks s) (List.getD picks (Int.toNat (↑s : Int)) (0 : Int))).m.c.b, AVal.int .i64 (pickH (stR h picks s) (List.getD picks
  (Int.toNat (↑s : Int)) (0 : Int))).m.c.o, AVal.int .i64 (pickH (stR h picks s) (List.getD picks (Int.toNat (↑s : Int)) (0 : Int))).m.c.e, AVal.int .i64 (pickH (stR h picks s) (List.getD picks
  (Int.toNat (↑s : Int)) (0 : Int))).m.c.r, AVal.int .i64 (pickH (stR h picks s) (List.getD picks (Int.toNat (↑s : Int)) (0 : Int))).m.c.a, AVal.int .u64 (pickH (stR h picks s) (List.getD picks
  (Int.toNat (↑s : Int)) (0 : Int))).m.c.l, AVal.int .i64 (pickH (stR h picks s) (List.getD picks (Int.toNat (↑s : Int)) (0 : Int))).m.seen.kind, AVal.int .i64 (pickH (stR h picks s) (List.getD picks
  (Int.toNat (↑s : Int)) (0 : Int))).m.seen.at_, AVal.int .u64 (pickH (stR h picks s) (List.getD picks (Int.toNat (↑s : Int)) (0 : Int))).m.seen.x, AVal.int .u64 (pickH (stR h picks s) (List.getD picks
  (Int.toNat (↑s : Int)) (0 : Int))).m.seen.y, AVal.int .u64 (pickH (stR h picks s) (List.getD picks (Int.toNat (↑s : Int)) (0 : Int))).m.seen.old, AVal.vec 4]) (Res.cells 103 [AVal.int .i64 (stR h
  picks s').m.c.w, AVal.int .i64 (stR h picks s').m.c.s, AVal.int .i64 (stR h picks s').m.c.b, AVal.int .i64 (stR h picks s').m.c.o, AVal.int .i64 (stR h picks s').m.c.e, AVal.int .i64 (stR h picks
  s').m.c.r, AVal.int .i64 (stR h picks s').m.c.a, AVal.int .u64 (stR h picks s').m.c.l, AVal.int .i64 (stR h picks s').m.seen.kind, AVal.int .i64 (stR h picks s').m.seen.at_, AVal.int .u64 (stR h picks
  s').m.seen.x, AVal.int .u64 (stR h picks s').m.seen.y, AVal.int .u64 (stR h picks s').m.seen.old, AVal.vec 4]) ∧ (EqR (Res.recs 59 (pickH (stR h picks s) (List.getD picks (Int.toNat (↑s : Int)) (0 :
  Int))).l 35 []) (Res.recs 59 (stR h picks s').l 35 []) ∧ True ∧ True ∧ True ∧ True ∧ True ∧ True ∧ True ∧ True ∧ True) ∧ EqR (Res.vec 22 (pickH (stR h picks s) (List.getD picks (Int.toNat (↑s : Int))
  (0 : Int))).m.ws) (Res.vec 22 (stR h picks s').m.ws) ∧ EqR (Res.vec 45 (pickH (stR h picks s) (List.getD picks (Int.toNat (↑s : Int)) (0 : Int))).ev) (Res.vec 45 (stR h picks s').ev) ∧ EqR (Res.vec 22
  (pickH (stR h picks s) (List.getD picks (Int.toNat (↑s : Int)) (0 : Int))).told.t0) (Res.vec 22 (stR h picks s').told.t0) ∧ EqR (Res.vec 22 (pickH (stR h picks s) (List.getD picks (Int.toNat (↑s :
  Int)) (0 : Int))).told.t1) (Res.vec 22 (stR h picks s').told.t1) ∧ EqR (Res.vec 22 (pickH (stR h picks s) (List.getD picks (Int.toNat (↑s : Int)) (0 : Int))).told.t2) (Res.vec 22 (stR h picks
  s').told.t2) ∧ EqR (Res.vec 22 (pickH (stR h picks s) (List.getD picks (Int.toNat (↑s : Int)) (0 : Int))).told.t3) (Res.vec 22 (stR h picks s').told.t3) ∧ EqR (Res.vec 22 (pickH (stR h picks s)
  (List.getD picks (Int.toNat (↑s : Int)) (0 : Int))).told.t4) (Res.vec 22 (stR h picks s').told.t4) ∧ EqR (Res.vec 22 (pickH (stR h picks s) (List.getD picks (Int.toNat (↑s : Int)) (0 : Int))).told.t5)
  (Res.vec 22 (stR h picks s').told.t5) ∧ EqR (Res.vec 22 (pickH (stR h picks s) (List.getD picks (Int.toNat (↑s : Int)) (0 : Int))).told.t6) (Res.vec 22 (stR h picks s').told.t6) ∧ EqR (Res.vec 22
  (pickH (stR h picks s) (List.getD picks (Int.toNat (↑s : Int)) (0 : Int))).told.t7) (Res.vec 22 (stR h picks s').told.t7) ∧ True) ∧ True) (K (stR h picks s) ())) := by kernel_rfl

theorem stR_zero (h : Hl) (p : List Int) : stR h p 0 = h := rfl
theorem stR_succ (h : Hl) (p : List Int) (i : Nat) (hi : i < p.length) : stR h p (i + 1) = pickH (stR h p i) (p.getD i 0) := by
  unfold stR
  rw [List.take_add_one, List.getElem?_eq_getElem hi, List.foldl_append, List.getD_eq_getElem?_getD, List.getElem?_eq_getElem hi]; rfl
theorem stR_full (h : Hl) (p : List Int) : stR h p p.length = runH h p := by unfold stR runH; rw [List.take_length]
theorem ok13 : GOk cx 13 gRun := gcall_ok ΓQ_ok Tryz.func13 (body_of (by kernel_rfl)) Tryz.call13 (fun h p hp => ⟨specRun h p, 100, by
  have e := vc_run (fun h' b => (h', b) = (runH h p, ())) h p
  refine Eq.mpr e ⟨⟨0, Nat.zero_le _, ⟨rfl, trivial⟩, ⟨⟨trivial, trivial, trivial, trivial, rfl, trivial⟩, rfl, ⟨rfl, trivial, trivial, trivial, trivial, trivial, trivial, trivial, trivial, trivial⟩, rfl, rfl, rfl, rfl, rfl, rfl, rfl, rfl, rfl, rfl, trivial⟩, trivial⟩, ?_⟩
  clear e
  intro s hs
  refine cnd_intro (fun c => ?_) (fun c => ?_)
  · have c : s < p.length := by have := of_decide_eq_true c; omega
    have hq := hp.2 s c
    have hn := stR_succ h p s c
    refine ⟨⟨by omega, by omega⟩, by rw [Int.toNat_natCast]; exact hq, s + 1, c, by omega, ⟨next_int (by omega) (Int.ofNat_le.2 hp.1), trivial⟩, ?_⟩
    rw [hn, Int.toNat_natCast]
    exact ⟨⟨⟨trivial, trivial, trivial, trivial, rfl, trivial⟩, rfl, ⟨rfl, trivial, trivial, trivial, trivial, trivial, trivial, trivial, trivial, trivial⟩, rfl, rfl, rfl, rfl, rfl, rfl, rfl, rfl, rfl, rfl, trivial⟩, trivial⟩
  · have c : ¬ s < p.length := by have := of_decide_eq_false c; omega
    obtain rfl : s = p.length := by omega
    rw [← stR_full]⟩)
end Go.Proofs.YtaeepogbgflbpaaGreat
end

/- A verified symbolic executor, part 33: contracts from data that stays to a vector of the caller's own, whose elements may hold data that stays. Over any program; no condition. -/
section
set_option linter.unusedVariables false
set_option linter.unusedSimpArgs false
namespace Go.Ax
variable {El : TypeId → Type}
/-- A contract from data that stays to a vector of the caller's own. -/
def freshI {α : Type} (d : Cd El α) (t : TypeId) (pre : α → Prop) (f : α → List (El t)) : GSpec El := fun args R base => match d.dec true (settleL R args), vecsL R args with
  | some (x, []), [] => .need (pre x) (.leaf (.vec base, [(base, .vec t (f x))]))
  | _, _ => .fail
section
variable {c : Cx El}
theorem freshI_ok {Γ : FuncId → Option (GSpec El)} (hΓ : ∀ f g, Γ f = some g → GOk c f g) {f : FuncId} {fn : Func} {code : Code} (hfn : c.P.funcs[f]? = some fn) (hb : fn.body = some code)
    (henter : ∀ args w, (callFunc f args).run c.P w = .ok (.enter f args) w) {α : Type} {d : Cd El α} {t : TypeId} {pre : α → Prop} {g : α → List (El t)}
    (h : ∀ x, pre x → ∃ spec n, aexecF cnd c Γ spec n fn code (d.enc x) [] (fun y R => rdV t R y (fun b => b = g x))) : GOk c f (freshI d t pre g) := by
  refine ⟨henter, fun args R base y ho I E w vals hargs hr hfree => ?_⟩
  unfold freshI at ho
  split at ho
  · rename_i x hx hv
    obtain ⟨hp, ho⟩ := ho
    simp only [Tree.Out] at ho
    have hy := ho.symm
    subst hy
    have hbase : E base = none := hfree base _ (List.mem_singleton.2 rfl) (Nat.le_refl _)
    obtain ⟨spec, n, hx'⟩ := h x hp
    have hs : Reps c.L I w noE (settleL R args) vals := settleL_ok hr hargs (fun b hb => hb) (fun r hr' => by rw [hv] at hr'; simp at hr')
    have hd := d.reads _ _ _ _ hx c.L I w noE vals hs
    rw [List.append_nil] at hd
    have hr0 : HR c.L I w noE ([] : List (Res El)) := ⟨fun r h => absurd rfl h, fun r _ _ _ _ h => absurd rfl h, fun b ⟨r, e, h1, _⟩ => absurd rfl h1, hr.old⟩
    refine (aexecF_ok hΓ hfn hb hx' hd hr0 (fun r _ => rfl)).mono ?_
    rintro en w' ⟨v, z, R', I1, E1, rfl, hK, hk⟩
    have hfr : Fr (fun _ => False) w w' := hk.ext.fr.weaken (fun b ⟨r, e, h1, _⟩ => absurd rfl h1)
    have himm : ∀ b, I1 b → I b ∨ w.heap.size ≤ b := fun b hb => by
      rcases hk.ext.immOld b hb with h | ⟨r, e, h1, _⟩ | h
      · exact .inl h
      · exact absurd rfl h1
      · exact .inr h
    have hr1 : HR c.L I1 w' E R := hr.growI hfr hk.ext.imm himm hk.hr.old
    have fin : ∀ e : REnv, v = e.raw → e.raw.oneCell' = true → HRes c.L I1 w' (E.put base e) e (.vec t (g x)) → (∀ b, e.blk = some b → w.heap.size ≤ b ∧ ¬ I1 b) →
        ∃ v' I' E', (Ending.returned v : Ending) = .returned v' ∧ Post c.L I E R w base [(base, .vec t (g x))] (.vec base) v' w' I' E' := by
      rintro e rfl h1 h2 h3
      have g1 := hr1.add0 hbase e (.vec t (g x)) (w' := w') (fun _ _ => rfl) (Nat.le_refl _) h2 (fun b hb => ⟨fun ho => by have := hr.own_lt ho; have := (h3 b hb).1; omega, (h3 b hb).2⟩)
      refine ⟨_, I1, E.put base e, rfl, ⟨hk.ext.imm, Env.le_put hbase, hfr.weaken (fun _ h => h.elim), fun b hb => (himm b hb).imp id .inr, ?_⟩, g1, .vec (Env.put_same _ _ _) h1, fun r hr => Env.put_ne _ _ (fun e' => absurd (hr (.vec t (g x)) (by rw [e']; simp)) (by omega))⟩
      rintro b ⟨r, e2, k1, k2, k3⟩
      have k1 : getR (setR R base (.vec t (g x))) r ≠ .dead := k1
      rw [getR_setR] at k1
      by_cases hrb : r = base
      · subst hrb
        rw [Env.put_same] at k2
        cases k2
        exact .inr (h3 b k3).1
      · rw [if_neg hrb] at k1
        rw [Env.put_ne _ _ hrb] at k2
        exact .inl ⟨r, e2, k1, k2, k3⟩
    unfold rdV at hK
    split at hK
    · have hrep := hk.rep
      cases hrep
      exact fin ⟨none, .slice none 0 0⟩ rfl rfl (.inl ⟨rfl, hK.symm, none, rfl⟩) (fun b hb => by cases hb)
    · rename_i r
      split at hK
      · rename_i t' xs hg
        split at hK
        · rename_i ht _
          subst ht
          have hK : xs = g x := hK
          subst hK
          have hrep := hk.rep
          cases hrep with
          | vec he h1 =>
            rename_i e
            obtain ⟨e', k1, k2⟩ := hk.hr.res r (by rw [hg]; simp)
            rw [he] at k1; cases k1
            rw [hg] at k2
            have k2 : HRes c.L I1 w' (E.put base e) e (.vec t' (g x)) := by
              rcases k2 with k2 | ⟨b, cap, cells, vals, q1, q2, q3, q4, q5, q6, q7⟩
              · exact .inl k2
              · exact .inr ⟨b, cap, cells, vals, q1, q2, q3, q4, q5, q6, q7⟩
            exact fin e rfl h1 k2 (fun b hb => ⟨by
              rcases hk.ext.ownOld b ⟨r, e, by rw [hg]; simp, he, hb⟩ with ⟨r, e, h1, _⟩ | h
              · exact absurd rfl h1
              · exact h, hk.hr.notI b ⟨r, e, by rw [hg]; simp, he, hb⟩⟩)
        · exact hK.elim
      · exact hK.elim
    · exact hK.elim
  · exact ho.elim
end
end Go.Ax
end

/- Looking at a hall whose events are given up for good: the graph, and what the function computes, in plain Lean. No condition. -/
section
set_option linter.unusedVariables false
set_option linter.unusedSimpArgs false
set_option maxRecDepth 100000
set_option maxHeartbeats 1000000
namespace Go.Proofs.YtaeepogbgflbpaaGreat
open Go Go.Ax

def encF (h : Hl) : List (Res El) := [.cells 63 [.ptr 1 0, .vec 2, .list 45 h.ev, .int .i64 h.tick], .cells 103 (cdHdr.enc (h.m.c, h.m.seen) ++ [.vec 3]), .recs 59 h.l 35 [.vec 4, .vec 5, .vec 6, .vec 7, .vec 8, .vec 9, .vec 10, .vec 11],
  .vec 22 h.m.ws, .vec 22 h.told.t0, .vec 22 h.told.t1, .vec 22 h.told.t2, .vec 22 h.told.t3, .vec 22 h.told.t4, .vec 22 h.told.t5, .vec 22 h.told.t6, .vec 22 h.told.t7]
def asList (t : TypeId) : AVal El → Option (List (El t))
  | .list t' xs => match Nat.decEq t' t with
    | .isTrue h => some (h ▸ xs)
    | .isFalse _ => none
  | _ => none
theorem asList_ok {t : TypeId} {x : AVal El} {xs : List (El t)} (h : asList t x = some xs) : x = .list t xs := by
  unfold asList at h
  split at h
  · split at h
    · rename_i e _; subst e; cases h; rfl
    · cases h
  · cases h
def decF (R : List (Res El)) : Option Hl := match R with
  | [.cells t0 c0, .cells t1 c1, .recs t2 l k nm, r4, r5, r6, r7, r8, r9, r10, r11, r12] =>
    match Nat.decEq t0 63, Nat.decEq t1 103, Nat.decEq t2 59, Nat.decEq k 35, c0, cdHdr.dec false c1, nm with
    | .isTrue _, .isTrue _, .isTrue h, .isTrue _, [.ptr 1 0, .vec 2, r3, .int .i64 tick], some (x, [.vec 3]), [.vec 4, .vec 5, .vec 6, .vec 7, .vec 8, .vec 9, .vec 10, .vec 11] =>
      match asList 45 r3, asVec 22 r4, asVec 22 r5, asVec 22 r6, asVec 22 r7, asVec 22 r8 with
      | some ev, some ws, some t0, some t1, some t2, some t3 => match asVec 22 r9, asVec 22 r10, asVec 22 r11, asVec 22 r12 with
        | some t4, some t5, some t6, some t7 => some ⟨⟨x.1, x.2, ws⟩, (h ▸ l : List (El 59)), ev, tick, ⟨t0, t1, t2, t3, t4, t5, t6, t7⟩⟩
        | _, _, _, _ => none
      | _, _, _, _, _, _ => none
    | _, _, _, _, _, _, _ => none
  | _ => none
theorem decF_ok (R : List (Res El)) (h : Hl) (hd : decF R = some h) : R = encF h := by
  unfold decF at hd
  split at hd
  · rename_i t0 c0 t1 c1 t2 l k nm r4 r5 r6 r7 r8 r9 r10 r11 r12
    split at hd
    · rename_i e0 e1 e2 e3 r3 tick x q0 q1 q2 q3 q4
      subst e0; subst e1; subst e2; subst e3
      split at hd
      · rename_i ev ws a0 a1 a2 a3 g3 g4 g5 g6 g7 g8
        split at hd
        · rename_i a4 a5 a6 a7 g9 g10 g11 g12
          cases hd
          rw [asList_ok g3, asVec_ok g4, asVec_ok g5, asVec_ok g6, asVec_ok g7, asVec_ok g8, asVec_ok g9, asVec_ok g10, asVec_ok g11, asVec_ok g12, cdHdr.strict _ _ _ q4]
          rfl
        · cases hd
      · cases hd
    · cases hd
  · cases hd
def GF : Gr El Hl where
  gr := encF
  dec := decF
  dec_ok := decF_ok
  n := 12
  fuel := 60
  len _ := rfl
  live s q hq := by
    have : q = 0 ∨ q = 1 ∨ q = 2 ∨ q = 3 ∨ q = 4 ∨ q = 5 ∨ q = 6 ∨ q = 7 ∨ q = 8 ∨ q = 9 ∨ q = 10 ∨ q = 11 := by omega
    rcases this with rfl | rfl | rfl | rfl | rfl | rfl | rfl | rfl | rfl | rfl | rfl | rfl <;> (intro h; cases h)
  refs s := rfl
  keep q := match q with
    | 0 => true
    | 1 => true
    | 2 => true
    | 3 => true
    | _ => false
  pos := by decide
  root := rfl
theorem vc_clev (K : List Ev → Prop) (a : List Ev) : aexecF cnd cx noΓ noSpec 100 Tryz.f18 (codeOf Tryz.f18) (aEvs.enc a) [] (fun y R => rdV 45 R y K) = ( cnd (List.isEmpty a) (K [] ∧ (((0 : Nat) +
  List.length a) * (176 : Nat) ≤ (140737488355328 : Nat) ∧ (0 : Nat) + List.length a ≤ (140737488355328 : Nat)) ∧ K ([] ++ a)) ((((0 : Nat) + List.length a) * (176 : Nat) ≤ (140737488355328 : Nat) ∧ (0
  : Nat) + List.length a ≤ (140737488355328 : Nat)) ∧ K ([] ++ a))) := by kernel_rfl
noncomputable def gCloneEv : GSpec El := freshI aEvs 45 (fun l => l.length ≤ 100000) id
theorem ok18 : GOk cx 18 gCloneEv := freshI_ok noΓ_ok Tryz.func18 (body_of (by kernel_rfl)) Tryz.call18 (fun a h => ⟨noSpec, 100, by
  have e := vc_clev (fun q => q = a) a
  refine Eq.mpr e ?_; clear e
  have h : a.length ≤ 100000 := h
  refine cnd_intro (fun he => ?_) (fun he => ?_)
  · have : a = [] := by simpa using he
    subst this
    exact ⟨rfl, by simp, rfl⟩
  · exact ⟨by omega, rfl⟩⟩)
noncomputable def ΓV : FuncId → Option (GSpec El) := addΓ (addΓ noΓ 15 (freshV aW 22 small id)) 18 gCloneEv
theorem ΓV_ok : ∀ f g, ΓV f = some g → GOk cx f g := addΓ_ok (addΓ_ok noΓ_ok ok15) ok18
def vecOf (st : St El) (d : Nat) : Nat := match nth st.slots d with
  | .vec r => r
  | _ => 0
noncomputable def specEv (h : Hl) : Nat → Option (St El → LSpec El) := addSpec noSpec 5 fun st =>
  { σ := Nat, slots := fun i => [(14, .int .i64 i)], res := fun i => [(vecOf st 3, .vec 45 h.ev)], inv := fun i => i ≤ h.ev.length, meas := fun i => h.ev.length - i }
theorem next_of {i n : Nat} (h : i < n) (hn : n ≤ 1000000) : EqA (AVal.int IntKind.i64 (wr ((i : Int) + 1))) (AVal.int IntKind.i64 ((i + 1 : Nat) : Int)) := by
  have : wr ((i : Int) + 1) = ((i + 1 : Nat) : Int) := by rw [wr_in (by omega)]; omega
  rw [this]
def evP (h : Hl) : Prop := h.ev.length ≤ 100000 ∧ ∀ e ∈ h.ev, small e.ans.read
noncomputable def gEvents : GSpec El := gread GF .unit aEvs (fun h _ => evP h) (fun h _ => h.ev)
end Go.Proofs.YtaeepogbgflbpaaGreat
end

/- Looking at a hall's events: what the function computes, printed, and its contract. No condition. -/
section
set_option linter.unusedVariables false
set_option linter.unusedSimpArgs false
set_option maxRecDepth 100000
set_option maxHeartbeats 4000000
namespace Go.Proofs.YtaeepogbgflbpaaGreat
open Go Go.Ax

theorem vc_events (K : Hl → (List Ev) → Prop) (h : Hl) : aexecF cnd cx ΓV (specEv h) 100 Tryz.f9 (codeOf Tryz.f9) (.ptr 0 0 :: Cd.unit.enc ()) (GF.gr h) (fun y R => rdG GF.all aEvs y R K) = (
  List.length h.ev ≤ (100000 : Nat) ∧ (∃ (s0 : Nat), s0 ≤ List.length h.ev ∧ (EqA (AVal.int .i64 0) (AVal.int .i64 (↑s0 : Int)) ∧ True) ∧ ((True ∧ True ∧ True ∧ EqA (AVal.list 45 h.ev) (AVal.list 45
  h.ev) ∧ EqA (AVal.int .i64 h.tick) (AVal.int .i64 h.tick) ∧ True) ∧ EqR (Res.cells 103 [AVal.int .i64 h.m.c.w, AVal.int .i64 h.m.c.s, AVal.int .i64 h.m.c.b, AVal.int .i64 h.m.c.o, AVal.int .i64
  h.m.c.e, AVal.int .i64 h.m.c.r, AVal.int .i64 h.m.c.a, AVal.int .u64 h.m.c.l, AVal.int .i64 h.m.seen.kind, AVal.int .i64 h.m.seen.at_, AVal.int .u64 h.m.seen.x, AVal.int .u64 h.m.seen.y, AVal.int .u64
  h.m.seen.old, AVal.vec 3]) (Res.cells 103 [AVal.int .i64 h.m.c.w, AVal.int .i64 h.m.c.s, AVal.int .i64 h.m.c.b, AVal.int .i64 h.m.c.o, AVal.int .i64 h.m.c.e, AVal.int .i64 h.m.c.r, AVal.int .i64
  h.m.c.a, AVal.int .u64 h.m.c.l, AVal.int .i64 h.m.seen.kind, AVal.int .i64 h.m.seen.at_, AVal.int .u64 h.m.seen.x, AVal.int .u64 h.m.seen.y, AVal.int .u64 h.m.seen.old, AVal.vec 3]) ∧ (EqR (Res.recs
  59 h.l 35 []) (Res.recs 59 h.l 35 []) ∧ ([AVal.vec 4, AVal.vec 5, AVal.vec 6, AVal.vec 7, AVal.vec 8, AVal.vec 9, AVal.vec 10, AVal.vec 11] : List (AVal El)) = [AVal.vec 4, AVal.vec 5, AVal.vec 6,
  AVal.vec 7, AVal.vec 8, AVal.vec 9, AVal.vec 10, AVal.vec 11]) ∧ EqR (Res.vec 22 h.m.ws) (Res.vec 22 h.m.ws) ∧ EqR (Res.vec 22 h.told.t0) (Res.vec 22 h.told.t0) ∧ EqR (Res.vec 22 h.told.t1) (Res.vec
  22 h.told.t1) ∧ EqR (Res.vec 22 h.told.t2) (Res.vec 22 h.told.t2) ∧ EqR (Res.vec 22 h.told.t3) (Res.vec 22 h.told.t3) ∧ EqR (Res.vec 22 h.told.t4) (Res.vec 22 h.told.t4) ∧ EqR (Res.vec 22 h.told.t5)
  (Res.vec 22 h.told.t5) ∧ EqR (Res.vec 22 h.told.t6) (Res.vec 22 h.told.t6) ∧ EqR (Res.vec 22 h.told.t7) (Res.vec 22 h.told.t7) ∧ EqR (Res.vec 45 (id h.ev)) (Res.vec 45 h.ev) ∧ True) ∧ True) ∧ ∀ (s :
  Nat), s ≤ List.length h.ev → cnd (decide ((↑s : Int) < (↑(List.length (id h.ev)) : Int))) (((0 : Int) ≤ (↑s : Int) ∧ (↑s : Int) < (↑(List.length h.ev) : Int)) ∧ Int.toNat (↑s : Int) < List.length h.ev
  ∧ small (List.getD h.ev (Int.toNat (↑s : Int)) (YtaeepogbgflbpaaGreat.K.dflt (tab (45 : TypeId)))).ans.read ∧ ((0 : Int) ≤ (↑s : Int) ∧ (↑s : Int) < (↑(List.length h.ev) : Int)) ∧ Int.toNat (↑s : Int)
  < List.length h.ev ∧ ∃ (s' : Nat), s' ≤ List.length h.ev ∧ List.length h.ev - s' < List.length h.ev - s ∧ (EqA (AVal.int .i64 (wr ((↑s : Int) + (1 : Int)))) (AVal.int .i64 (↑s' : Int)) ∧ True) ∧
  ((True ∧ True ∧ True ∧ EqA (AVal.list 45 h.ev) (AVal.list 45 h.ev) ∧ EqA (AVal.int .i64 h.tick) (AVal.int .i64 h.tick) ∧ True) ∧ EqR (Res.cells 103 [AVal.int .i64 h.m.c.w, AVal.int .i64 h.m.c.s,
  AVal.int .i64 h.m.c.b, AVal.int .i64 h.m.c.o, AVal.int .i64 h.m.c.e, AVal.int .i64 h.m.c.r, AVal.int .i64 h.m.c.a, AVal.int .u64 h.m.c.l, AVal.int .i64 h.m.seen.kind, AVal.int .i64 h.m.seen.at_,
  AVal.int .u64 h.m.seen.x, AVal.int .u64 h.m.seen.y, AVal.int .u64 h.m.seen.old, AVal.vec 3]) (Res.cells 103 [AVal.int .i64 h.m.c.w, AVal.int .i64 h.m.c.s, AVal.int .i64 h.m.c.b, AVal.int .i64 h.m.c.o,
  AVal.int .i64 h.m.c.e, AVal.int .i64 h.m.c.r, AVal.int .i64 h.m.c.a, AVal.int .u64 h.m.c.l, AVal.int .i64 h.m.seen.kind, AVal.int .i64 h.m.seen.at_, AVal.int .u64 h.m.seen.x, AVal.int .u64 h.m.seen.y,
  AVal.int .u64 h.m.seen.old, AVal.vec 3]) ∧ (EqR (Res.recs 59 h.l 35 []) (Res.recs 59 h.l 35 []) ∧ ([AVal.vec 4, AVal.vec 5, AVal.vec 6, AVal.vec 7, AVal.vec 8, AVal.vec 9, AVal.vec 10, AVal.vec 11] :
  List (AVal El)) = [AVal.vec 4, AVal.vec 5, AVal.vec 6, AVal.vec 7, AVal.vec 8, AVal.vec 9, AVal.vec 10, AVal.vec 11]) ∧ EqR (Res.vec 22 h.m.ws) (Res.vec 22 h.m.ws) ∧ EqR (Res.vec 22 h.told.t0)
  (Res.vec 22 h.told.t0) ∧ EqR (Res.vec 22 h.told.t1) (Res.vec 22 h.told.t1) ∧ EqR (Res.vec 22 h.told.t2) (Res.vec 22 h.told.t2) ∧ EqR (Res.vec 22 h.told.t3) (Res.vec 22 h.told.t3) ∧ EqR (Res.vec 22
  h.told.t4) (Res.vec 22 h.told.t4) ∧ EqR (Res.vec 22 h.told.t5) (Res.vec 22 h.told.t5) ∧ EqR (Res.vec 22 h.told.t6) (Res.vec 22 h.told.t6) ∧ EqR (Res.vec 22 h.told.t7) (Res.vec 22 h.told.t7) ∧ EqR
  (Res.vec 45 (List.set h.ev (Int.toNat (↑s : Int)) (Ev.mk (List.getD h.ev (Int.toNat (↑s : Int)) (YtaeepogbgflbpaaGreat.K.dflt (tab (45 : TypeId)))).tick (List.getD h.ev (Int.toNat (↑s : Int))
  (YtaeepogbgflbpaaGreat.K.dflt (tab (45 : TypeId)))).worker (List.getD h.ev (Int.toNat (↑s : Int)) (YtaeepogbgflbpaaGreat.K.dflt (tab (45 : TypeId)))).n (List.getD h.ev (Int.toNat (↑s : Int))
  (YtaeepogbgflbpaaGreat.K.dflt (tab (45 : TypeId)))).kind (Ans.mk (List.getD h.ev (Int.toNat (↑s : Int)) (YtaeepogbgflbpaaGreat.K.dflt (tab (45 : TypeId)))).ans.op (List.getD h.ev (Int.toNat (↑s :
  Int)) (YtaeepogbgflbpaaGreat.K.dflt (tab (45 : TypeId)))).ans.t (List.getD h.ev (Int.toNat (↑s : Int)) (YtaeepogbgflbpaaGreat.K.dflt (tab (45 : TypeId)))).ans.ret (id (List.getD h.ev (Int.toNat (↑s :
  Int)) (YtaeepogbgflbpaaGreat.K.dflt (tab (45 : TypeId)))).ans.read)) (List.getD h.ev (Int.toNat (↑s : Int)) (YtaeepogbgflbpaaGreat.K.dflt (tab (45 : TypeId)))).line (List.getD h.ev (Int.toNat (↑s :
  Int)) (YtaeepogbgflbpaaGreat.K.dflt (tab (45 : TypeId)))).acc))) (Res.vec 45 h.ev) ∧ True) ∧ True) (K h h.ev)) := by kernel_rfl


theorem set_getD {α : Type} (l : List α) (i : Nat) (d : α) (h : i < l.length) : l.set i (l.getD i d) = l := by
  rw [List.getD_eq_getElem?_getD, List.getElem?_eq_getElem h]; exact List.set_getElem_self h
theorem ok9 : GOk cx 9 gEvents := gread_ok ΓV_ok Tryz.func9 (body_of (by kernel_rfl)) Tryz.call9 (fun h _ hp => ⟨specEv h, 100, by
  obtain ⟨h1, h2⟩ := hp
  have e := vc_events (fun h' b => (h', b) = (h, h.ev)) h
  refine Eq.mpr e ⟨h1, ⟨0, Nat.zero_le _, ⟨rfl, trivial⟩, ⟨⟨trivial, trivial, trivial, rfl, rfl, trivial⟩, rfl, ⟨rfl, rfl⟩, rfl, rfl, rfl, rfl, rfl, rfl, rfl, rfl, rfl, rfl, trivial⟩, trivial⟩, ?_⟩
  clear e
  intro s hs
  refine cnd_intro (fun c => ?_) (fun c => rfl)
  have c : s < h.ev.length := by have := of_decide_eq_true c; have e : (id h.ev).length = h.ev.length := rfl; omega
  refine ⟨⟨by omega, by omega⟩, by omega, h2 _ (by rw [Int.toNat_natCast]; exact getD_mem _ _ c _), ⟨by omega, by omega⟩, by omega, s + 1, c, by omega, ⟨next_of c (Nat.le_trans h1 (by omega)), trivial⟩,
    ⟨⟨trivial, trivial, trivial, rfl, rfl, trivial⟩, rfl, ⟨rfl, rfl⟩, rfl, rfl, rfl, rfl, rfl, rfl, rfl, rfl, rfl, congrArg _ ?_, trivial⟩, trivial⟩
  rw [Int.toNat_natCast]
  exact set_getD h.ev s (K.dflt (tab 45)) c⟩)
end Go.Proofs.YtaeepogbgflbpaaGreat
end

/- Whether a worker is at work, and what it has left: what the functions compute, in plain Lean. No condition. -/
section
set_option linter.unusedVariables false
set_option linter.unusedSimpArgs false
set_option maxRecDepth 100000
set_option maxHeartbeats 1000000
namespace Go.Proofs.YtaeepogbgflbpaaGreat
open Go Go.Ax

noncomputable def ΓB1 : FuncId → Option (GSpec El) := addΓ ΓP0 55 (inl cx ΓR2 300 Tryz.f55 (codeOf Tryz.f55))
theorem ΓB1_ok : ∀ f g, ΓB1 f = some g → GOk cx f g := addΓ_ok ΓP0_ok (inl_ok ΓR2_ok Tryz.func55 (body_of (by kernel_rfl)) Tryz.call55 300)
noncomputable def ΓB2 : FuncId → Option (GSpec El) := addΓ (addΓ noΓ 44 (inl cx ΓB1 100 Tryz.f44 (codeOf Tryz.f44))) 38 (inl cx noΓ 100 Tryz.f38 (codeOf Tryz.f38))
theorem ΓB2_ok : ∀ f g, ΓB2 f = some g → GOk cx f g := addΓ_ok (addΓ_ok noΓ_ok (inl_ok ΓB1_ok Tryz.func44 (body_of (by kernel_rfl)) Tryz.call44 100)) (inl_ok noΓ_ok Tryz.func38 (body_of (by kernel_rfl)) Tryz.call38 100)
def busyH (h : Hl) (w : Int) : Bool := isW h w && !decide ((wrAt h w).x.line = 0)
def leftH (h : Hl) (w : Int) : Int := if isW h w = true then wr (((wrAt h w).prog.length : Int) - (wrAt h w).next) else 0
noncomputable def gBusy : GSpec El := gread GH aI cdB (fun h w => Fine h) busyH
noncomputable def gLeft : GSpec El := gread GH aI aI (fun h w => True) leftH
end Go.Proofs.YtaeepogbgflbpaaGreat
end

/- Whether a worker is at work, and what it has left: what the functions compute, printed, and their contracts. No condition. -/
section
set_option linter.unusedVariables false
set_option linter.unusedSimpArgs false
set_option maxRecDepth 100000
set_option maxHeartbeats 4000000
namespace Go.Proofs.YtaeepogbgflbpaaGreat
open Go Go.Ax

theorem vc_busy (K : Hl → Bool → Prop) (h : Hl) (w : Int) : aexecF cnd cx ΓB2 noSpec 100 Tryz.f29 (codeOf Tryz.f29) (.ptr 0 0 :: aI.enc w) (GH.gr h) (fun y R => rdG GH.all cdB y R K) = ( cnd (decide
  (w ≥ (0 : Int)) == true) (cnd (!decide (w < (↑(List.length h.l) : Int))) (K h false) (((0 : Int) ≤ w ∧ w < (↑(List.length h.l) : Int)) ∧ Int.toNat w < List.length h.l ∧ small (List.getD h.l (Int.toNat
  w) (YtaeepogbgflbpaaGreat.K.dflt (tab (59 : TypeId)))).x.rack ∧ small (List.getD h.l (Int.toNat w) (YtaeepogbgflbpaaGreat.K.dflt (tab (59 : TypeId)))).x.rack ∧ small (List.getD h.l (Int.toNat w)
  (YtaeepogbgflbpaaGreat.K.dflt (tab (59 : TypeId)))).x.hold ∧ small (List.getD h.l (Int.toNat w) (YtaeepogbgflbpaaGreat.K.dflt (tab (59 : TypeId)))).x.read ∧ small (List.getD h.l (Int.toNat w)
  (YtaeepogbgflbpaaGreat.K.dflt (tab (59 : TypeId)))).x.l0 ∧ small (List.getD h.l (Int.toNat w) (YtaeepogbgflbpaaGreat.K.dflt (tab (59 : TypeId)))).x.l1 ∧ small (List.getD h.l (Int.toNat w)
  (YtaeepogbgflbpaaGreat.K.dflt (tab (59 : TypeId)))).x.l2 ∧ K h (!(List.getD h.l (Int.toNat w) (YtaeepogbgflbpaaGreat.K.dflt (tab (59 : TypeId)))).x.line == (0 : Int)))) (K h false)) := by kernel_rfl

theorem vc_left (K : Hl → Int → Prop) (h : Hl) (w : Int) : aexecF cnd cx ΓP0 noSpec 100 Tryz.f30 (codeOf Tryz.f30) (.ptr 0 0 :: aI.enc w) (GH.gr h) (fun y R => rdG GH.all aI y R K) = ( cnd (decide (w
  ≥ (0 : Int)) == true) (cnd (!decide (w < (↑(List.length h.l) : Int))) (K h (0 : Int)) (((0 : Int) ≤ w ∧ w < (↑(List.length h.l) : Int)) ∧ Int.toNat w < List.length h.l ∧ ((0 : Int) ≤ w ∧ w <
  (↑(List.length h.l) : Int)) ∧ Int.toNat w < List.length h.l ∧ K h (wr ((↑(List.length (List.getD h.l (Int.toNat w) (YtaeepogbgflbpaaGreat.K.dflt (tab (59 : TypeId)))).prog) : Int) - (List.getD h.l
  (Int.toNat w) (YtaeepogbgflbpaaGreat.K.dflt (tab (59 : TypeId)))).next)))) (K h (0 : Int))) := by kernel_rfl


theorem ok29 : GOk cx 29 gBusy := gread_ok ΓB2_ok Tryz.func29 (body_of (by kernel_rfl)) Tryz.call29 (fun h w hp => ⟨noSpec, 100, by
  have hp : Fine h := hp
  have L := hp.lim w
  have e := vc_busy (fun h' b => (h', b) = (h, busyH h w)) h w
  refine Eq.mpr e (cnd_intro (fun c1 => cnd_intro (fun c2 => ?_) (fun c2 => ?_)) (fun c1 => ?_))
  · have : isW h w = false := by simp [isW]; intro; simpa using c2
    exact congrArg (fun b => (h, b)) (show false = busyH h w by unfold busyH; rw [this]; rfl)
  · have g1 : 0 ≤ w := by simpa using c1
    have g2 : w < (h.l.length : Int) := by simpa using c2
    have hw := isW_iff.2 ⟨g1, g2⟩
    have s : ∀ l : List Int, l.length ≤ 50000 → small l := fun l hl => Nat.le_trans hl (by omega)
    have q := L.sum
    have q1 : (wrAt h w).x.hold.length ≤ 50000 := by omega
    have q2 : (wrAt h w).x.l0.length ≤ 50000 := by omega
    have q3 : (wrAt h w).x.l1.length ≤ 50000 := by omega
    have q4 : (wrAt h w).x.l2.length ≤ 50000 := by omega
    refine ⟨⟨g1, g2⟩, isW_nat hw, s _ L.rack, s _ L.rack, s _ q1, s _ L.read, s _ q2, s _ q3, s _ q4, ?_⟩
    refine congrArg (fun b => (h, b)) (show (!((wrAt h w).x.line == 0)) = busyH h w from ?_)
    unfold busyH; rw [hw, Bool.true_and]; rfl
  · have : isW h w = false := by simp [isW]; intro h'; exact absurd h' (by simpa using c1)
    exact congrArg (fun b => (h, b)) (show false = busyH h w by unfold busyH; rw [this]; rfl)⟩)
theorem ok30 : GOk cx 30 gLeft := gread_ok ΓP0_ok Tryz.func30 (body_of (by kernel_rfl)) Tryz.call30 (fun h w hp => ⟨noSpec, 100, by
  have e := vc_left (fun h' b => (h', b) = (h, leftH h w)) h w
  refine Eq.mpr e (cnd_intro (fun c1 => cnd_intro (fun c2 => ?_) (fun c2 => ?_)) (fun c1 => ?_))
  · have : isW h w = false := by simp [isW]; intro; simpa using c2
    exact congrArg (fun b => (h, b)) (show 0 = leftH h w by unfold leftH; rw [this]; rfl)
  · have g1 : 0 ≤ w := by simpa using c1
    have g2 : w < (h.l.length : Int) := by simpa using c2
    have hw := isW_iff.2 ⟨g1, g2⟩
    refine ⟨⟨g1, g2⟩, isW_nat hw, ⟨g1, g2⟩, isW_nat hw, ?_⟩
    refine congrArg (fun b => (h, b)) (show wr (((wrAt h w).prog.length : Int) - (wrAt h w).next) = leftH h w from ?_)
    unfold leftH; rw [if_pos hw]
  · have : isW h w = false := by simp [isW]; intro h'; exact absurd h' (by simpa using c1)
    exact congrArg (fun b => (h, b)) (show 0 = leftH h w by unfold leftH; rw [this]; rfl)⟩)
end Go.Proofs.YtaeepogbgflbpaaGreat
end

/- A verified symbolic executor, part 34: contracts over graphs that are reached by what the arguments capture. Over any program; no condition. -/
section
set_option linter.unusedVariables false
set_option linter.unusedSimpArgs false
namespace Go.Ax
variable {El : TypeId → Type}
section defs
variable {S β : Type} (G : Gr El S) (e : Cd El β)
/-- The graph that is reached from some roots, and what is handed back. -/
def rdM (rs : List Nat) (y : AVal El) (R : List (Res El)) (Q : S → β → Prop) : Prop :=
  forceNL (walk (updR R (killU (vecsA R y))) G.fuel [] rs) fun ns => rdGN G e y R (updR R (killU (vecsA R y))) Q ns
def gshapeN (A : List (AVal El)) (pre : S → Prop) (f : S → S × β) (args : List (AVal El)) (R : List (Res El)) (base : Nat) (ns : List Nat) : Tree (Eff El) := match G.dec (canR ns R ns) with
  | some s => match nodupN ns && allBL (fun r => memN r ns) args with
    | true => .need (mapNL (posN ns) args = A ∧ pre s) (.leaf (one (e.enc (f s).2), updG G ns base (f s).1))
    | false => .fail
  | none => .fail
/-- A contract of a function whose arguments are just so, up to names. -/
def gshape (roots : List (AVal El) → List Nat) (A : List (AVal El)) (pre : S → Prop) (f : S → S × β) : GSpec El := fun args R base =>
  forceNL (walk R G.fuel [] (roots args)) fun ns => gshapeN G e A pre f args R base ns
end defs
theorem posN_mem {ns : List Nat} {r : Nat} (h : r ∈ ns) : ns[posN ns r]? = some r := by
  induction ns with
  | nil => cases h
  | cons a l ih =>
    unfold posN
    cases hb : Nat.beq a r with
    | true => simp [Nat.eq_of_beq_eq_true hb]
    | false =>
      rcases List.mem_cons.1 h with h | h
      · subst h; rw [Nat.beq_refl] at hb; cases hb
      · simpa using ih h
section
variable {c : Cx El}
theorem gshape_ok {Γ : FuncId → Option (GSpec El)} (hΓ : ∀ f g, Γ f = some g → GOk c f g) {fi : FuncId} {fn : Func} {code : Code} (hfn : c.P.funcs[fi]? = some fn) (hb : fn.body = some code)
    (henter : ∀ args w, (callFunc fi args).run c.P w = .ok (.enter fi args) w) {S β : Type} {G : Gr El S} {e : Cd El β} {roots : List (AVal El) → List Nat} {A : List (AVal El)} {rs : List Nat} {pre : S → Prop} {f : S → S × β}
    (h : ∀ s, pre s → ∃ spec n, aexecF cnd c Γ spec n fn code A (G.gr s) (fun y R => rdM G e rs y R (fun s' b => (s', b) = f s))) : GOk c fi (gshape G e roots A pre f) := by
  refine ⟨henter, fun args R base y ho I E w vals hargs hr hfree => ?_⟩
  unfold gshape at ho
  rw [forceNL_eq] at ho
  generalize hns : walk R G.fuel [] (roots args) = ns at ho
  unfold gshapeN at ho
  split at ho
  · rename_i s hs
    have hgr := G.dec_ok _ _ hs
    split at ho
    · rename_i hnd
      simp only [Bool.and_eq_true] at hnd
      have hn := nodupN_iff hnd.1
      obtain ⟨⟨hA, hpre⟩, ho⟩ := ho
      simp only [Tree.Out] at ho
      have hy := ho.symm
      subst hy
      have hlen : ns.length = G.n := by rw [← G.len s, ← hgr, lenR_can]
      have hat : ∀ q, q < G.n → ns[q]? = some (natAt ns q) := fun q hq => by
        rw [natAt_eq, List.getD_eq_getElem?_getD, List.getElem?_eq_getElem (by omega)]; rfl
      have hr0 : HR c.L I w (E.can ns) (G.gr s) := by rw [← hgr]; exact hr.can hn (by rw [hgr, hlen]; exact G.refs s)
      have e0 : ∀ q, q < G.n → E.can ns q = E (natAt ns q) := fun q hq => by unfold Env.can; rw [hat q hq]; rfl
      have hrd : Reps c.L I w (E.can ns) A vals := by
        rw [← hA]
        refine hargs.mapN hnd.2 (fun r e' hp he => ?_)
        have hm : r ∈ ns := memN_iff.1 hp
        unfold Env.can
        rw [posN_mem hm]
        exact he
      obtain ⟨spec, n, hexec⟩ := h s hpre
      have hfree' : ∀ q, q < G.n → G.keep q = false → E (base + q) = none := fun q hq hk => by
        obtain ⟨x, hx⟩ := mem_putU (G := G) (ns := ns) (base := base) (rs := G.gr (f s).1) (q0 := 0) (q := q) (by rw [G.len]; exact hq)
        refine hfree (base + q) x ?_ (by omega)
        show (base + q, x) ∈ updG G ns base (f s).1
        unfold updG
        rw [appU_eq]
        refine List.mem_append_right _ ?_
        rw [Nat.zero_add] at hx
        have ht : tgt G ns base q = base + q := by unfold tgt; rw [hk]
        rw [ht] at hx
        exact hx
      refine (aexecF_ok hΓ hfn hb hexec hrd hr0 (fun r hr' => ?_)).mono ?_
      · rw [G.len] at hr'
        unfold Env.can
        rw [List.getElem?_eq_none (by omega)]; rfl
      · rintro en w' ⟨v, z, R1, I1, E1, rfl, hK, hk⟩
        unfold rdM at hK
        rw [forceNL_eq] at hK
        obtain ⟨I2, q1, q2, q3, q4⟩ := kill_ok hk.hr (vecsA R1 z)
        generalize hns1 : walk (updR R1 (killU (vecsA R1 z))) G.fuel [] rs = ns1 at hK
        unfold rdGN at hK
        split at hK
        · rename_i s' hs'
          have hgr' := G.dec_ok _ _ hs'
          split at hK
          · rename_i hnd'
            simp only [Bool.and_eq_true] at hnd'
            have hn' := nodupN_iff hnd'.1
            have hlen' : ns1.length = G.n := by rw [← G.len s', ← hgr', lenR_can]
            have hrep := settle_ok (J := I2) (E' := noE) hk.hr hk.rep q1.imm (fun r hr' e' b he hb' => q4 r hr' (vecsA_live _ hr') e' b he hb')
            obtain ⟨b, hQ, hrep'⟩ := rd_ok hK hrep
            have hr2 : HR c.L I2 w' (E1.can ns1) (G.gr s') := by rw [← hgr']; exact q2.can hn' (by rw [hgr', hlen']; exact G.refs s')
            have hext := hk.ext.trans q1
            have hfs : (f s).1 = s' ∧ (f s).2 = b := by rw [← hQ]; exact ⟨rfl, rfl⟩
            have o2 : ∀ k, Own (E1.can ns1) (G.gr s') k → Own E1 (updR R1 (killU (vecsA R1 z))) k := fun k hk' => by rw [← hgr'] at hk'; exact (own_can hk').1
            obtain ⟨E', hpost⟩ := graph_back (base := base) (s' := s') (x := one (e.enc b)) (v := v) hr hn hgr hext.fr hext.imm hext.immOld (fun k hk' => hext.ownOld k (o2 k hk')) hr2 (fun q hq hkp => by
                rw [← e0 q hq]
                have hlt : q < ns1.length := by omega
                have := keptB_at hnd'.2 (q := q) (List.getElem?_eq_getElem hlt) (by rw [Nat.zero_add]; exact hkp)
                unfold Env.can
                rw [List.getElem?_eq_getElem hlt, this, Nat.zero_add]
                exact hk.same q (by rw [G.len]; exact hq)) hfree' hrep'
            refine ⟨v, I2, E', rfl, ?_⟩
            simp only [hfs.1, hfs.2]
            exact hpost
          · exact hK.elim
        · exact hK.elim
    · exact ho.elim
  · exact ho.elim
end
end Go.Ax
end

/- The run of the function that asks whether the checker is awake: its states. No condition. -/
section
set_option linter.unusedVariables false
set_option linter.unusedSimpArgs false
set_option maxRecDepth 100000
set_option maxHeartbeats 1000000
namespace Go.Proofs.YtaeepogbgflbpaaGreat
open Go Go.Ax

def cfgA : Cfg := ⟨1, 1, 2, 1, 1, 0, 2, 9⟩
def loadA : List (List OpD) := [[⟨3, 0, 5, 0, false, 0, 0⟩, ⟨4, 0, 0, 0, true, 0, 0⟩, ⟨3, 0, 6, 0, false, 0, 0⟩, ⟨6, 0, 0, 0, true, 0, 1⟩, ⟨6, 0, 0, 0, true, 0, 0⟩]]
def stA : Nat → Hl
  | 0 => newH (cfgA, loadA)
  | n + 1 => pickH (stA n) 0
def limB (x : Wk) : Bool := decide (x.rack.length ≤ 50000) && decide (x.read.length ≤ 50000) && decide (x.hold.length + x.l0.length + x.l1.length + x.l2.length ≤ 50000)
def wrB (r : Wr) : Bool := limB r.x && decide (0 ≤ r.next) && decide (r.prog.length ≤ 1000) && r.prog.all rightB
def shortB (l : List Int) : Bool := decide (l.length ≤ 50000)
def fineB (h : Hl) : Bool := decide (h.l.length ≤ 8) && decide (h.ev.length ≤ 100000) && (shortB h.told.t0 && shortB h.told.t1 && shortB h.told.t2 && shortB h.told.t3 && shortB h.told.t4 && shortB h.told.t5 && shortB h.told.t6 && shortB h.told.t7) &&
  h.l.all wrB && decide (1 ≤ h.m.c.b) && decide (h.m.c.b ≤ 16)
def lineB (x : Wk) : Bool := (!x.give && linesF.contains x.line) || (x.give && linesT.contains x.line) || decide (x.line = 0)
def pickB (h : Hl) (w : Int) : Bool := fineB h && lineB (wrAt h w).x
theorem getD_all {α : Type} {P : α → Prop} {l : List α} {d : α} (hl : ∀ x ∈ l, P x) (hd : P d) (n : Nat) : P (l.getD n d) := by
  rw [List.getD_eq_getElem?_getD]
  rcases Nat.lt_or_ge n l.length with h | h
  · rw [List.getElem?_eq_getElem h]; exact hl _ (List.getElem_mem h)
  · rw [List.getElem?_eq_none h]; exact hd
theorem fine_of {h : Hl} (hb : fineB h = true) : Fine h := by
  simp only [fineB, Bool.and_eq_true, decide_eq_true_eq, shortB, List.all_eq_true] at hb
  obtain ⟨⟨⟨⟨⟨h1, h2⟩, ⟨⟨⟨⟨⟨⟨⟨t0, t1⟩, t2⟩, t3⟩, t4⟩, t5⟩, t6⟩, t7⟩⟩, h4⟩, h5⟩, h6⟩ := hb
  have hw : ∀ w, wrB (wrAt h w) = true := fun w => getD_all (P := fun r => wrB r = true) h4 rfl _
  refine ⟨h1, h2, fun w => ?_, fun w => ?_, ⟨h5, h6⟩, fun w => ?_, fun w => ?_⟩
  · unfold getT; repeat' split
    all_goals assumption
  · have := hw w
    simp only [wrB, limB, Bool.and_eq_true, decide_eq_true_eq] at this
    exact ⟨this.1.1.1.1.1, this.1.1.1.1.2, this.1.1.1.2⟩
  · have := hw w
    simp only [wrB, limB, Bool.and_eq_true, decide_eq_true_eq] at this
    exact ⟨this.1.1.2, this.1.2⟩
  · have := hw w
    simp only [wrB, Bool.and_eq_true, List.all_eq_true] at this
    exact this.2
theorem pick_of {h : Hl} {w : Int} (hb : pickB h w = true) : pickP h w := by
  simp only [pickB, Bool.and_eq_true] at hb
  refine ⟨fine_of hb.1, fun _ => ?_⟩
  have := hb.2
  simp only [lineB, Bool.or_eq_true, Bool.and_eq_true, decide_eq_true_eq, List.contains_eq_mem, Bool.not_eq_true'] at this
  rcases this with (⟨h1, h2⟩ | ⟨h1, h2⟩) | h1
  · exact .inl (.inl ⟨h1, h2⟩)
  · exact .inl (.inr ⟨h1, h2⟩)
  · exact .inr h1
/-- A hall and a worker, behind the cells that a closure captures. -/
def encB (y : Hl × Int) : List (Res El) := [.cells 28 [.ptr 2 0], .cells 3 [.int .i64 y.2], .cells 63 [.ptr 3 0, .vec 4, .vec 5, .int .i64 y.1.tick], .cells 103 (cdHdr.enc (y.1.m.c, y.1.m.seen) ++ [.vec 6]),
  .recs 59 y.1.l 35 [.vec 7, .vec 8, .vec 9, .vec 10, .vec 11, .vec 12, .vec 13, .vec 14],
  .vec 45 y.1.ev, .vec 22 y.1.m.ws, .vec 22 y.1.told.t0, .vec 22 y.1.told.t1, .vec 22 y.1.told.t2, .vec 22 y.1.told.t3, .vec 22 y.1.told.t4, .vec 22 y.1.told.t5, .vec 22 y.1.told.t6, .vec 22 y.1.told.t7]
def decB (R : List (Res El)) : Option (Hl × Int) := match R with
  | [.cells ta ca, .cells tb cb, .cells t0 c0, .cells t1 c1, .recs t2 l k nm, r3, r4, r5, r6, r7, r8, r9, r10, r11, r12] =>
    match Nat.decEq ta 28, Nat.decEq tb 3, ca, cb with
    | .isTrue _, .isTrue _, [.ptr 2 0], [.int .i64 w] =>
      match Nat.decEq t0 63, Nat.decEq t1 103, Nat.decEq t2 59, Nat.decEq k 35, c0, cdHdr.dec false c1, nm with
      | .isTrue _, .isTrue _, .isTrue h, .isTrue _, [.ptr 3 0, .vec 4, .vec 5, .int .i64 tick], some (x, [.vec 6]), [.vec 7, .vec 8, .vec 9, .vec 10, .vec 11, .vec 12, .vec 13, .vec 14] =>
        match asVec 45 r3, asVec 22 r4, asVec 22 r5, asVec 22 r6, asVec 22 r7, asVec 22 r8 with
        | some ev, some ws, some t0, some t1, some t2, some t3 => match asVec 22 r9, asVec 22 r10, asVec 22 r11, asVec 22 r12 with
          | some t4, some t5, some t6, some t7 => some (⟨⟨x.1, x.2, ws⟩, (h ▸ l : List (El 59)), ev, tick, ⟨t0, t1, t2, t3, t4, t5, t6, t7⟩⟩, w)
          | _, _, _, _ => none
        | _, _, _, _, _, _ => none
      | _, _, _, _, _, _, _ => none
    | _, _, _, _ => none
  | _ => none
theorem decB_ok (R : List (Res El)) (y : Hl × Int) (hd : decB R = some y) : R = encB y := by
  unfold decB at hd
  split at hd
  · rename_i ta ca tb cb t0 c0 t1 c1 t2 l k nm r3 r4 r5 r6 r7 r8 r9 r10 r11 r12
    split at hd
    · rename_i ea eb w q5 q6
      subst ea; subst eb
      split at hd
      · rename_i e0 e1 e2 e3 tick x q0 q1 q2 q3 q4
        subst e0; subst e1; subst e2; subst e3
        split at hd
        · rename_i ev ws a0 a1 a2 a3 g3 g4 g5 g6 g7 g8
          split at hd
          · rename_i a4 a5 a6 a7 g9 g10 g11 g12
            cases hd
            rw [asVec_ok g3, asVec_ok g4, asVec_ok g5, asVec_ok g6, asVec_ok g7, asVec_ok g8, asVec_ok g9, asVec_ok g10, asVec_ok g11, asVec_ok g12, cdHdr.strict _ _ _ q4]
            rfl
          · cases hd
        · cases hd
      · cases hd
    · cases hd
  · cases hd
def GB : Gr El (Hl × Int) where
  gr := encB
  dec := decB
  dec_ok := decB_ok
  n := 15
  fuel := 60
  len _ := rfl
  live s q hq := by
    have : q = 0 ∨ q = 1 ∨ q = 2 ∨ q = 3 ∨ q = 4 ∨ q = 5 ∨ q = 6 ∨ q = 7 ∨ q = 8 ∨ q = 9 ∨ q = 10 ∨ q = 11 ∨ q = 12 ∨ q = 13 ∨ q = 14 := by omega
    rcases this with rfl | rfl | rfl | rfl | rfl | rfl | rfl | rfl | rfl | rfl | rfl | rfl | rfl | rfl | rfl <;> (intro h; cases h)
  refs s := rfl
  keep q := match q with
    | 0 => true
    | 1 => true
    | 2 => true
    | 3 => true
    | 4 => true
    | 6 => true
    | _ => false
  pos := by decide
  root := rfl
noncomputable def ΓW1 : FuncId → Option (GSpec El) := addΓ (addΓ (addΓ noΓ 27 gPick) 29 gBusy) 30 gLeft
theorem ΓW1_ok : ∀ f g, ΓW1 f = some g → GOk cx f g := addΓ_ok (addΓ_ok (addΓ_ok noΓ_ok ok27) ok29) ok30
noncomputable def ΓW2 : FuncId → Option (GSpec El) := addΓ (addΓ noΓ 26 (inl cx ΓW1 60 Tryz.f26 (codeOf Tryz.f26))) 28 (inl cx ΓW1 60 Tryz.f28 (codeOf Tryz.f28))
theorem ΓW2_ok : ∀ f g, ΓW2 f = some g → GOk cx f g := addΓ_ok (addΓ_ok noΓ_ok (inl_ok ΓW1_ok Tryz.func26 (body_of (by kernel_rfl)) Tryz.call26 60)) (inl_ok ΓW1_ok Tryz.func28 (body_of (by kernel_rfl)) Tryz.call28 60)
/-- The state after the first picks, and how many there are. -/
def stB (h : Hl) (w : Int) (k : Nat) : Hl := if w = 0 then stA k else stA 56
def numB (w : Int) : Nat := if w = 0 then 56 else 0
def rootsB (args : List (AVal El)) : List Nat := match args with
  | [.agg [.fn _ [.ptr a _, .ptr b _], _], _] => [a, b]
  | _ => []
def argsB : List (AVal El) := [.agg [.fn 26 [.ptr 0 0, .ptr 1 0], .fn 28 [.ptr 0 0, .ptr 1 0]], .int .i64 1000]
def headB (h : Hl) (L : Nat) : List (Nat × Res El) := [(2, .cells 63 [.ptr 3 0, .vec 4, .vec L, .int .i64 h.tick]), (3, .cells 103 (cdHdr.enc (h.m.c, h.m.seen) ++ [.vec 6])),
  (4, .recs 59 h.l 35 [.vec (L + 1), .vec (L + 2), .vec (L + 3), .vec (L + 4), .vec (L + 5), .vec (L + 6), .vec (L + 7), .vec (L + 8)]), (6, .vec 22 h.m.ws),
  (5, .dead), (7, .dead), (8, .dead), (9, .dead), (10, .dead), (11, .dead), (12, .dead), (13, .dead), (14, .dead),
  (L, .vec 45 h.ev), (L + 1, .vec 22 h.told.t0), (L + 2, .vec 22 h.told.t1), (L + 3, .vec 22 h.told.t2), (L + 4, .vec 22 h.told.t3), (L + 5, .vec 22 h.told.t4), (L + 6, .vec 22 h.told.t5), (L + 7, .vec 22 h.told.t6), (L + 8, .vec 22 h.told.t7)]
noncomputable def specB (h : Hl) (w : Int) : Nat → Option (St El → LSpec El) := addSpec noSpec 2 fun st =>
  { σ := Nat, slots := fun k => [(6, .int .i64 k)], res := fun k => headB (stB h w k) (lenR st.res), inv := fun k => k ≤ numB w, meas := fun k => numB w - k,
    fresh := [.cell 2 2, .name 4 0, .name 4 1, .name 4 2, .name 4 3, .name 4 4, .name 4 5, .name 4 6, .name 4 7] }
def cdIB : Cd El (Int × Bool) := .pair aI .bool
def preB (y : Hl × Int) : Prop := (y.2 = 0 ∧ y.1 = stA 0) ∨ (1 ≤ y.2 ∧ y.1 = stA 56)
def outB (y : Hl × Int) : (Hl × Int) × (Int × Bool) := ((stA 56, y.2), ((numB y.2 : Int), true))
noncomputable def gRunB : GSpec El := gshape GB cdIB rootsB argsB preB outB
/-- What holds of the states of the run. -/
def waitB (h : Hl) (w : Int) : Bool := busyH h w || decide (0 < leftH h w)
def allA : Nat → Bool
  | 0 => true
  | k + 1 => allA k && (pickB (stA k) 0 && waitB (stA k) 0)
theorem allA_56 : allA 56 = true := by kernel_rfl
theorem endA : (fineB (stA 56) && !waitB (stA 56) 0) = true := by kernel_rfl
theorem lenA : (stA 56).l.length = 1 := by kernel_rfl
theorem allA_at : ∀ n k, k < n → allA n = true → pickB (stA k) 0 = true ∧ waitB (stA k) 0 = true
  | 0, k, h, _ => by omega
  | n + 1, k, h, ha => by
    simp only [allA, Bool.and_eq_true] at ha
    rcases Nat.lt_or_ge k n with h' | h'
    · exact allA_at n k h' ha.1
    · obtain rfl : k = n := by omega
      exact ha.2
end Go.Proofs.YtaeepogbgflbpaaGreat
end

/- The runner of the function that asks whether the checker is awake: what it computes, printed, and its contract. No condition. -/
section
set_option linter.unusedVariables false
set_option linter.unusedSimpArgs false
set_option maxRecDepth 100000
set_option maxHeartbeats 4000000
namespace Go.Proofs.YtaeepogbgflbpaaGreat
open Go Go.Ax

theorem vc_runb (K : (Hl × Int) → (Int × Bool) → Prop) (h : Hl) (w : Int) : aexecF cnd cx ΓW2 (specB h w) 100 Tryz.f31 (codeOf Tryz.f31) argsB (GB.gr (h, w)) (fun y R =>
  rdM GB cdIB [0, 1] y R K) = ( (∃ (s0 : Nat), s0 ≤ numB w ∧ (EqA (AVal.int IntKind.i64 (0 : Int)) (AVal.int IntKind.i64 (↑s0 : Int)) ∧ True) ∧ (EqR (Res.cells (28 : Nat)
  [AVal.ptr (2 : Nat) (0 : Nat)]) (Res.cells (28 : Nat) [AVal.ptr (2 : Nat) (0 : Nat)]) ∧ EqR (Res.cells (3 : Nat) [AVal.int IntKind.i64 w]) (Res.cells (3 : Nat) [AVal.int
  IntKind.i64 w]) ∧ (True ∧ True ∧ True ∧ True ∧ EqA (AVal.int IntKind.i64 h.tick) (AVal.int IntKind.i64 (stB h w s0).tick) ∧ True) ∧ EqR (Res.cells (103 : Nat) [AVal.int
  IntKind.i64 h.m.c.w, AVal.int IntKind.i64 h.m.c.s, AVal.int IntKind.i64 h.m.c.b, AVal.int IntKind.i64 h.m.c.o, AVal.int IntKind.i64 h.m.c.e, AVal.int IntKind.i64 h.m.c.r,
  AVal.int IntKind.i64 h.m.c.a, AVal.int IntKind.u64 h.m.c.l, AVal.int IntKind.i64 h.m.seen.kind, AVal.int IntKind.i64 h.m.seen.at_, AVal.int IntKind.u64 h.m.seen.x,
  AVal.int IntKind.u64 h.m.seen.y, AVal.int IntKind.u64 h.m.seen.old, AVal.vec (6 : Nat)]) (Res.cells (103 : Nat) [AVal.int IntKind.i64 (stB h w s0).m.c.w, AVal.int
  IntKind.i64 (stB h w s0).m.c.s, AVal.int IntKind.i64 (stB h w s0).m.c.b, AVal.int IntKind.i64 (stB h w s0).m.c.o, AVal.int IntKind.i64 (stB h w s0).m.c.e, AVal.int
  IntKind.i64 (stB h w s0).m.c.r, AVal.int IntKind.i64 (stB h w s0).m.c.a, AVal.int IntKind.u64 (stB h w s0).m.c.l, AVal.int IntKind.i64 (stB h w s0).m.seen.kind, AVal.int
  IntKind.i64 (stB h w s0).m.seen.at_, AVal.int IntKind.u64 (stB h w s0).m.seen.x, AVal.int IntKind.u64 (stB h w s0).m.seen.y, AVal.int IntKind.u64 (stB h w s0).m.seen.old,
  AVal.vec (6 : Nat)]) ∧ (EqR (Res.recs (59 : Nat) h.l (35 : Nat) []) (Res.recs (59 : Nat) (stB h w s0).l (35 : Nat) []) ∧ True ∧ True ∧ True ∧ True ∧ True ∧ True ∧ True ∧
  True ∧ True) ∧ EqR (Res.vec (22 : Nat) h.m.ws) (Res.vec (22 : Nat) (stB h w s0).m.ws) ∧ EqR (Res.cells (78 : Nat) [AVal.fn (26 : Nat) [AVal.ptr (0 : Nat) (0 : Nat),
  AVal.ptr (1 : Nat) (0 : Nat)], AVal.fn (28 : Nat) [AVal.ptr (0 : Nat) (0 : Nat), AVal.ptr (1 : Nat) (0 : Nat)]]) (Res.cells (78 : Nat) [AVal.fn (26 : Nat) [AVal.ptr (0 :
  Nat) (0 : Nat), AVal.ptr (1 : Nat) (0 : Nat)], AVal.fn (28 : Nat) [AVal.ptr (0 : Nat) (0 : Nat), AVal.ptr (1 : Nat) (0 : Nat)]]) ∧ EqR (Res.vec (45 : Nat) h.ev) (Res.vec
  (45 : Nat) (stB h w s0).ev) ∧ EqR (Res.vec (22 : Nat) h.told.t0) (Res.vec (22 : Nat) (stB h w s0).told.t0) ∧ EqR (Res.vec (22 : Nat) h.told.t1) (Res.vec (22 : Nat) (stB h
  w s0).told.t1) ∧ EqR (Res.vec (22 : Nat) h.told.t2) (Res.vec (22 : Nat) (stB h w s0).told.t2) ∧ EqR (Res.vec (22 : Nat) h.told.t3) (Res.vec (22 : Nat) (stB h w
  s0).told.t3) ∧ EqR (Res.vec (22 : Nat) h.told.t4) (Res.vec (22 : Nat) (stB h w s0).told.t4) ∧ EqR (Res.vec (22 : Nat) h.told.t5) (Res.vec (22 : Nat) (stB h w s0).told.t5)
  ∧ EqR (Res.vec (22 : Nat) h.told.t6) (Res.vec (22 : Nat) (stB h w s0).told.t6) ∧ EqR (Res.vec (22 : Nat) h.told.t7) (Res.vec (22 : Nat) (stB h w s0).told.t7) ∧ True) ∧
  True) ∧ ∀ (s : Nat), s ≤ numB w → Fine (stB h w s) ∧ cnd (busyH (stB h w s) w == false) (True ∧ cnd (decide (leftH (stB h w s) w > (0 : Int))) (cnd (decide ((↑s : Int) ≥
  (1000 : Int))) (K (stB h w s, w) (if false = true then if (0 : Int) < (↑s : Int) then (0 : Int) else (↑s : Int) else if (0 : Int) > (↑s : Int) then (0 : Int) else (↑s :
  Int), false)) ((Fine (stB h w s) ∧ (isW (stB h w s) w = true → ((wrAt (stB h w s) w).x.give = false ∧ (wrAt (stB h w s) w).x.line ∈ linesF ∨ (wrAt (stB h w s) w).x.give =
  true ∧ (wrAt (stB h w s) w).x.line ∈ linesT) ∨ (wrAt (stB h w s) w).x.line = (0 : Int))) ∧ ∃ (s' : Nat), s' ≤ numB w ∧ numB w - s' < numB w - s ∧ (EqA (AVal.int
  IntKind.i64 (wr ((↑s : Int) + (1 : Int)))) (AVal.int IntKind.i64 (↑s' : Int)) ∧ True) ∧ (EqR (Res.cells (28 : Nat) [AVal.ptr (2 : Nat) (0 : Nat)]) (Res.cells (28 : Nat)
  [AVal.ptr (2 : Nat) (0 : Nat)]) ∧ EqR (Res.cells (3 : Nat) [AVal.int IntKind.i64 w]) (Res.cells (3 : Nat) [AVal.int IntKind.i64 w]) ∧ (True ∧ True ∧ True ∧ True ∧ EqA
  (AVal.int IntKind.i64 (pickH (stB h w s) w).tick) (AVal.int IntKind.i64 (stB h w s').tick) ∧ True) ∧ EqR (Res.cells (103 : Nat) [AVal.int IntKind.i64 (pickH (stB h w s)
  w).m.c.w, AVal.int IntKind.i64 (pickH (stB h w s) w).m.c.s, AVal.int IntKind.i64 (pickH (stB h w s) w).m.c.b, AVal.int IntKind.i64 (pickH (stB h w s) w).m.c.o, AVal.int
  IntKind.i64 (pickH (stB h w s) w).m.c.e, AVal.int IntKind.i64 (pickH (stB h w s) w).m.c.r, AVal.int IntKind.i64 (pickH (stB h w s) w).m.c.a, AVal.int IntKind.u64 (pickH
  (stB h w s) w).m.c.l, AVal.int IntKind.i64 (pickH (stB h w s) w).m.seen.kind, AVal.int IntKind.i64 (pickH (stB h w s) w).m.seen.at_, AVal.int IntKind.u64 (pickH (stB h w
  s) w).m.seen.x, AVal.int IntKind.u64 (pickH (stB h w s) w).m.seen.y, AVal.int IntKind.u64 (pickH (stB h w s) w).m.seen.old, AVal.vec (6 : Nat)]) (Res.cells (103 : Nat)
  [AVal.int IntKind.i64 (stB h w s').m.c.w, AVal.int IntKind.i64 (stB h w s').m.c.s, AVal.int IntKind.i64 (stB h w s').m.c.b, AVal.int IntKind.i64 (stB h w s').m.c.o,
  AVal.int IntKind.i64 (stB h w s').m.c.e, AVal.int IntKind.i64 (stB h w s').m.c.r, AVal.int IntKind.i64 (stB h w s').m.c.a, AVal.int IntKind.u64 (stB h w s').m.c.l,
  AVal.int IntKind.i64 (stB h w s').m.seen.kind, AVal.int IntKind.i64 (stB h w s').m.seen.at_, AVal.int IntKind.u64 (stB h w s').m.seen.x, AVal.int IntKind.u64 (stB h w
  s').m.seen.y, AVal.int IntKind.u64 (stB h w s').m.seen.old, AVal.vec (6 : Nat)]) ∧ (EqR (Res.recs (59 : Nat) (pickH (stB h w s) w).l (35 : Nat) []) (Res.recs (59 : Nat)
  (stB h w s').l (35 : Nat) []) ∧ True ∧ True ∧ True ∧ True ∧ True ∧ True ∧ True ∧ True ∧ True) ∧ EqR (Res.vec (22 : Nat) (pickH (stB h w s) w).m.ws) (Res.vec (22 : Nat)
  (stB h w s').m.ws) ∧ EqR (Res.cells (78 : Nat) [AVal.fn (26 : Nat) [AVal.ptr (0 : Nat) (0 : Nat), AVal.ptr (1 : Nat) (0 : Nat)], AVal.fn (28 : Nat) [AVal.ptr (0 : Nat) (0
  : Nat), AVal.ptr (1 : Nat) (0 : Nat)]]) (Res.cells (78 : Nat) [AVal.fn (26 : Nat) [AVal.ptr (0 : Nat) (0 : Nat), AVal.ptr (1 : Nat) (0 : Nat)], AVal.fn (28 : Nat)
  [AVal.ptr (0 : Nat) (0 : Nat), AVal.ptr (1 : Nat) (0 : Nat)]]) ∧ EqR (Res.vec (45 : Nat) (pickH (stB h w s) w).ev) (Res.vec (45 : Nat) (stB h w s').ev) ∧ EqR (Res.vec (22
  : Nat) (pickH (stB h w s) w).told.t0) (Res.vec (22 : Nat) (stB h w s').told.t0) ∧ EqR (Res.vec (22 : Nat) (pickH (stB h w s) w).told.t1) (Res.vec (22 : Nat) (stB h w
  s').told.t1) ∧ EqR (Res.vec (22 : Nat) (pickH (stB h w s) w).told.t2) (Res.vec (22 : Nat) (stB h w s').told.t2) ∧ EqR (Res.vec (22 : Nat) (pickH (stB h w s) w).told.t3)
  (Res.vec (22 : Nat) (stB h w s').told.t3) ∧ EqR (Res.vec (22 : Nat) (pickH (stB h w s) w).told.t4) (Res.vec (22 : Nat) (stB h w s').told.t4) ∧ EqR (Res.vec (22 : Nat)
  (pickH (stB h w s) w).told.t5) (Res.vec (22 : Nat) (stB h w s').told.t5) ∧ EqR (Res.vec (22 : Nat) (pickH (stB h w s) w).told.t6) (Res.vec (22 : Nat) (stB h w
  s').told.t6) ∧ EqR (Res.vec (22 : Nat) (pickH (stB h w s) w).told.t7) (Res.vec (22 : Nat) (stB h w s').told.t7) ∧ True) ∧ True)) (K (stB h w s, w) ((↑s : Int), true)))
  (cnd (decide ((↑s : Int) ≥ (1000 : Int))) (K (stB h w s, w) (if false = true then if (0 : Int) < (↑s : Int) then (0 : Int) else (↑s : Int) else if (0 : Int) > (↑s : Int)
  then (0 : Int) else (↑s : Int), false)) ((Fine (stB h w s) ∧ (isW (stB h w s) w = true → ((wrAt (stB h w s) w).x.give = false ∧ (wrAt (stB h w s) w).x.line ∈ linesF ∨
  (wrAt (stB h w s) w).x.give = true ∧ (wrAt (stB h w s) w).x.line ∈ linesT) ∨ (wrAt (stB h w s) w).x.line = (0 : Int))) ∧ ∃ (s' : Nat), s' ≤ numB w ∧ numB w - s' < numB w
  - s ∧ (EqA (AVal.int IntKind.i64 (wr ((↑s : Int) + (1 : Int)))) (AVal.int IntKind.i64 (↑s' : Int)) ∧ True) ∧ (EqR (Res.cells (28 : Nat) [AVal.ptr (2 : Nat) (0 : Nat)])
  (Res.cells (28 : Nat) [AVal.ptr (2 : Nat) (0 : Nat)]) ∧ EqR (Res.cells (3 : Nat) [AVal.int IntKind.i64 w]) (Res.cells (3 : Nat) [AVal.int IntKind.i64 w]) ∧ (True ∧ True ∧
  True ∧ True ∧ EqA (AVal.int IntKind.i64 (pickH (stB h w s) w).tick) (AVal.int IntKind.i64 (stB h w s').tick) ∧ True) ∧ EqR (Res.cells (103 : Nat) [AVal.int IntKind.i64
  (pickH (stB h w s) w).m.c.w, AVal.int IntKind.i64 (pickH (stB h w s) w).m.c.s, AVal.int IntKind.i64 (pickH (stB h w s) w).m.c.b, AVal.int IntKind.i64 (pickH (stB h w s)
  w).m.c.o, AVal.int IntKind.i64 (pickH (stB h w s) w).m.c.e, AVal.int IntKind.i64 (pickH (stB h w s) w).m.c.r, AVal.int IntKind.i64 (pickH (stB h w s) w).m.c.a, AVal.int
  IntKind.u64 (pickH (stB h w s) w).m.c.l, AVal.int IntKind.i64 (pickH (stB h w s) w).m.seen.kind, AVal.int IntKind.i64 (pickH (stB h w s) w).m.seen.at_, AVal.int
  IntKind.u64 (pickH (stB h w s) w).m.seen.x, AVal.int IntKind.u64 (pickH (stB h w s) w).m.seen.y, AVal.int IntKind.u64 (pickH (stB h w s) w).m.seen.old, AVal.vec (6 :
  Nat)]) (Res.cells (103 : Nat) [AVal.int IntKind.i64 (stB h w s').m.c.w, AVal.int IntKind.i64 (stB h w s').m.c.s, AVal.int IntKind.i64 (stB h w s').m.c.b, AVal.int
  IntKind.i64 (stB h w s').m.c.o, AVal.int IntKind.i64 (stB h w s').m.c.e, AVal.int IntKind.i64 (stB h w s').m.c.r, AVal.int IntKind.i64 (stB h w s').m.c.a, AVal.int
  IntKind.u64 (stB h w s').m.c.l, AVal.int IntKind.i64 (stB h w s').m.seen.kind, AVal.int IntKind.i64 (stB h w s').m.seen.at_, AVal.int IntKind.u64 (stB h w s').m.seen.x,
  AVal.int IntKind.u64 (stB h w s').m.seen.y, AVal.int IntKind.u64 (stB h w s').m.seen.old, AVal.vec (6 : Nat)]) ∧ (EqR (Res.recs (59 : Nat) (pickH (stB h w s) w).l (35 :
  Nat) []) (Res.recs (59 : Nat) (stB h w s').l (35 : Nat) []) ∧ True ∧ True ∧ True ∧ True ∧ True ∧ True ∧ True ∧ True ∧ True) ∧ EqR (Res.vec (22 : Nat) (pickH (stB h w s)
  w).m.ws) (Res.vec (22 : Nat) (stB h w s').m.ws) ∧ EqR (Res.cells (78 : Nat) [AVal.fn (26 : Nat) [AVal.ptr (0 : Nat) (0 : Nat), AVal.ptr (1 : Nat) (0 : Nat)], AVal.fn (28
  : Nat) [AVal.ptr (0 : Nat) (0 : Nat), AVal.ptr (1 : Nat) (0 : Nat)]]) (Res.cells (78 : Nat) [AVal.fn (26 : Nat) [AVal.ptr (0 : Nat) (0 : Nat), AVal.ptr (1 : Nat) (0 :
  Nat)], AVal.fn (28 : Nat) [AVal.ptr (0 : Nat) (0 : Nat), AVal.ptr (1 : Nat) (0 : Nat)]]) ∧ EqR (Res.vec (45 : Nat) (pickH (stB h w s) w).ev) (Res.vec (45 : Nat) (stB h w
  s').ev) ∧ EqR (Res.vec (22 : Nat) (pickH (stB h w s) w).told.t0) (Res.vec (22 : Nat) (stB h w s').told.t0) ∧ EqR (Res.vec (22 : Nat) (pickH (stB h w s) w).told.t1)
  (Res.vec (22 : Nat) (stB h w s').told.t1) ∧ EqR (Res.vec (22 : Nat) (pickH (stB h w s) w).told.t2) (Res.vec (22 : Nat) (stB h w s').told.t2) ∧ EqR (Res.vec (22 : Nat)
  (pickH (stB h w s) w).told.t3) (Res.vec (22 : Nat) (stB h w s').told.t3) ∧ EqR (Res.vec (22 : Nat) (pickH (stB h w s) w).told.t4) (Res.vec (22 : Nat) (stB h w
  s').told.t4) ∧ EqR (Res.vec (22 : Nat) (pickH (stB h w s) w).told.t5) (Res.vec (22 : Nat) (stB h w s').told.t5) ∧ EqR (Res.vec (22 : Nat) (pickH (stB h w s) w).told.t6)
  (Res.vec (22 : Nat) (stB h w s').told.t6) ∧ EqR (Res.vec (22 : Nat) (pickH (stB h w s) w).told.t7) (Res.vec (22 : Nat) (stB h w s').told.t7) ∧ True) ∧ True))) := by
  kernel_rfl

theorem isW_one {h : Hl} {w : Int} (hl : h.l.length ≤ 1) (hw : 1 ≤ w) : isW h w = false := by
  unfold isW; exact decide_eq_false (by omega)
theorem stB_step {h : Hl} {w : Int} {s : Nat} (hs : s < numB w) : stB h w (s + 1) = pickH (stB h w s) w := by
  unfold numB at hs
  by_cases hw : w = 0
  · unfold stB; rw [if_pos hw, if_pos hw, hw]; rfl
  · rw [if_neg hw] at hs; omega
theorem stB_facts {h : Hl} {w : Int} (hp : preB (h, w)) {s : Nat} (hs : s ≤ numB w) : Fine (stB h w s) ∧ (s < numB w → pickP (stB h w s) w ∧ waitB (stB h w s) w = true) ∧ (s = numB w → waitB (stB h w s) w = false) := by
  rcases hp with ⟨h1, h2⟩ | ⟨h1, h2⟩
  · have h1 : w = 0 := h1
    subst h1
    have hn : numB 0 = 56 := rfl
    have hst : stB h 0 s = stA s := if_pos rfl
    rw [hn] at hs ⊢
    rw [hst]
    rcases Nat.lt_or_ge s 56 with hlt | hge
    · have hq := allA_at 56 s hlt allA_56
      exact ⟨(pick_of hq.1).1, fun _ => ⟨pick_of hq.1, hq.2⟩, fun h => by omega⟩
    · obtain rfl : s = 56 := by omega
      have hq := endA
      simp only [Bool.and_eq_true, Bool.not_eq_true'] at hq
      exact ⟨fine_of hq.1, fun h => by omega, fun _ => hq.2⟩
  · have h1 : 1 ≤ w := h1
    have hn : numB w = 0 := if_neg (by omega)
    have hst : stB h w s = stA 56 := if_neg (by omega)
    rw [hst, hn]
    have hq := endA
    simp only [Bool.and_eq_true, Bool.not_eq_true'] at hq
    refine ⟨fine_of hq.1, fun h => by omega, fun _ => ?_⟩
    unfold waitB busyH leftH; rw [isW_one (Nat.le_of_eq lenA) h1]; rfl
theorem stB_end (h : Hl) (w : Int) : stB h w (numB w) = stA 56 := by
  unfold stB numB
  by_cases hw : w = 0
  · rw [if_pos hw, if_pos hw]
  · rw [if_neg hw]
theorem ok31 : GOk cx 31 gRunB := gshape_ok (rs := [0, 1]) ΓW2_ok Tryz.func31 (body_of (by kernel_rfl)) Tryz.call31 (fun ⟨h, w⟩ hp => ⟨specB h w, 100, by
  have hst0 : stB h w 0 = h := by
    unfold stB
    rcases hp with ⟨h1, h2⟩ | ⟨h1, h2⟩
    · have h2 : h = stA 0 := h2
      rw [if_pos h1, h2]
    · have h1 : 1 ≤ w := h1
      have h2 : h = stA 56 := h2
      rw [if_neg (by omega), h2]
  have hN : numB w ≤ 56 := by unfold numB; split <;> omega
  have e := vc_runb (fun y b => (y, b) = outB (h, w)) h w
  refine Eq.mpr e ⟨⟨0, Nat.zero_le _, ⟨rfl, trivial⟩, ?_, trivial⟩, ?_⟩
  · rw [hst0]
    exact ⟨rfl, rfl, ⟨trivial, trivial, trivial, trivial, rfl, trivial⟩, rfl, ⟨rfl, trivial, trivial, trivial, trivial, trivial, trivial, trivial, trivial, trivial⟩, rfl, rfl, rfl, rfl, rfl, rfl, rfl, rfl, rfl, rfl, rfl, trivial⟩
  · clear e
    intro s hs
    obtain ⟨f1, f2, f3⟩ := stB_facts hp hs
    have hlt : waitB (stB h w s) w = true → s < numB w := fun hw => by
      rcases Nat.lt_or_ge s (numB w) with h' | h'
      · exact h'
      · rw [f3 (by omega)] at hw; cases hw
    refine ⟨f1, cnd_intro (fun c1 => ⟨trivial, cnd_intro (fun c2 => cnd_intro (fun c3 => ?_) (fun c3 => ?_)) (fun c2 => ?_)⟩) (fun c1 => cnd_intro (fun c3 => ?_) (fun c3 => ?_))⟩
    · have := of_decide_eq_true c3; omega
    · have hw : waitB (stB h w s) w = true := by unfold waitB; rw [Bool.or_eq_true_iff]; exact .inr c2
      have hl := hlt hw
      refine ⟨(f2 hl).1, s + 1, hl, by omega, ⟨next_of (n := 57) (by omega) (by omega), trivial⟩, ?_, trivial⟩
      rw [stB_step hl]
      exact ⟨rfl, rfl, ⟨trivial, trivial, trivial, trivial, rfl, trivial⟩, rfl, ⟨rfl, trivial, trivial, trivial, trivial, trivial, trivial, trivial, trivial, trivial⟩, rfl, rfl, rfl, rfl, rfl, rfl, rfl, rfl, rfl, rfl, rfl, trivial⟩
    · have hw : waitB (stB h w s) w = false := by
        unfold waitB
        have c1 : busyH (stB h w s) w = false := by simpa using c1
        have c2 : decide (0 < leftH (stB h w s) w) = false := c2
        rw [c1, c2]; rfl
      have hs' : s = numB w := by
        rcases Nat.lt_or_ge s (numB w) with h' | h'
        · rw [(f2 h').2] at hw; cases hw
        · omega
      subst hs'
      rw [stB_end]; rfl
    · have := of_decide_eq_true c3; omega
    · have hw : waitB (stB h w s) w = true := by
        unfold waitB
        have c1 : busyH (stB h w s) w = true := by simpa using c1
        rw [c1]; rfl
      have hl := hlt hw
      refine ⟨(f2 hl).1, s + 1, hl, by omega, ⟨next_of (n := 57) (by omega) (by omega), trivial⟩, ?_, trivial⟩
      rw [stB_step hl]
      exact ⟨rfl, rfl, ⟨trivial, trivial, trivial, trivial, rfl, trivial⟩, rfl, ⟨rfl, trivial, trivial, trivial, trivial, trivial, trivial, trivial, trivial, trivial⟩, rfl, rfl, rfl, rfl, rfl, rfl, rfl, rfl, rfl, rfl, rfl, trivial⟩⟩)
end Go.Proofs.YtaeepogbgflbpaaGreat
end

/- Whether the checker is awake: the functions in place. No condition. -/
section
set_option linter.unusedVariables false
set_option linter.unusedSimpArgs false
set_option maxRecDepth 100000
set_option maxHeartbeats 1000000
namespace Go.Proofs.YtaeepogbgflbpaaGreat
open Go Go.Ax

noncomputable def ΓY1 : FuncId → Option (GSpec El) := addΓ noΓ 31 gRunB
theorem ΓY1_ok : ∀ f g, ΓY1 f = some g → GOk cx f g := addΓ_ok noΓ_ok ok31
noncomputable def ΓY : FuncId → Option (GSpec El) := addΓ (addΓ (addΓ (addΓ noΓ 11 (inl cx ΓY1 100 Tryz.f11 (codeOf Tryz.f11))) 10 gHall) 7 gTold) 9 gEvents
theorem ΓY_ok : ∀ f g, ΓY f = some g → GOk cx f g := addΓ_ok (addΓ_ok (addΓ_ok (addΓ_ok noΓ_ok (inl_ok ΓY1_ok Tryz.func11 (body_of (by kernel_rfl)) Tryz.call11 100)) ok10) ok7) ok9
def fixEv (st : St El) (r : Nat) : List (Nat × Res El) := match getR st.res r with
  | .cells t [a, b, .vec n, k] => match getR st.res n with
    | .vec u ev => [(r, .cells t [a, b, .list u ev, k]), (n, .dead)]
    | _ => []
  | _ => []
/-- What is not named is let go. -/
def dropN (keep : List Nat) : Nat → List (Res El) → List (Nat × Res El)
  | _, [] => []
  | q, _ :: l => match memN q keep with
    | true => dropN keep (q + 1) l
    | false => (q, .dead) :: dropN keep (q + 1) l
noncomputable def specAwake : Nat → Option (St El → LSpec El) := addSpec noSpec 1006 fun st =>
  { σ := Unit, slots := fun _ => [(4, .list 22 ([65537, 131073] : List Int))], res := fun _ => appU (dropN (walk st.res 60 [] [ptrOf st 2]) 0 st.res) (fixEv st (ptrOf st 2)), inv := fun _ => True, meas := fun _ => 0 }
end Go.Proofs.YtaeepogbgflbpaaGreat
end

/- The checker is awake. No condition. -/
section
set_option linter.unusedVariables false
set_option linter.unusedSimpArgs false
set_option maxRecDepth 100000
set_option maxHeartbeats 4000000
namespace Go.Proofs.YtaeepogbgflbpaaGreat
open Go Go.Ax

def nmsA : List (AVal El) := [.vec 145, .vec 146, .vec 147, .vec 148, .vec 149, .vec 150, .vec 151, .vec 152]
def bigA (h : Hl) : Prop := (True ∧ True ∧ True ∧ EqR (.vec 45 h.ev) (.vec 45 h.ev) ∧ EqA (.int .i64 h.tick) (.int .i64 h.tick) ∧ True) ∧ EqR (.cells 103 (cdHdr.enc (h.m.c, h.m.seen) ++ [.vec 7])) (.cells 103 (cdHdr.enc (h.m.c, h.m.seen) ++ [.vec 7])) ∧
  (EqR (.recs 59 h.l 35 []) (.recs 59 h.l 35 []) ∧ nmsA = nmsA) ∧ EqR (.vec 22 h.m.ws) (.vec 22 h.m.ws) ∧ EqR (.vec 22 h.told.t0) (.vec 22 h.told.t0) ∧ EqR (.vec 22 h.told.t1) (.vec 22 h.told.t1) ∧ EqR (.vec 22 h.told.t2) (.vec 22 h.told.t2) ∧ EqR (.vec 22 h.told.t3) (.vec 22 h.told.t3) ∧
  EqR (.vec 22 h.told.t4) (.vec 22 h.told.t4) ∧ EqR (.vec 22 h.told.t5) (.vec 22 h.told.t5) ∧ EqR (.vec 22 h.told.t6) (.vec 22 h.told.t6) ∧ EqR (.vec 22 h.told.t7) (.vec 22 h.told.t7) ∧ True
def tailA (K : Bool → Prop) (h : Hl) : Prop := evP h ∧ ((0 : Int) ≤ 0 ∧ (0 : Int) < 2) ∧ ((0 : Int) ≤ 1 ∧ (1 : Int) < 2) ∧ ((0 : Int) ≤ wr ((h.ev.length : Int) - 1) ∧ wr ((h.ev.length : Int) - 1) < (h.ev.length : Int)) ∧ K true
theorem vc_awake (K : Bool → Prop) : aexecF cnd cx ΓY specAwake 100 Tryz.f5 (codeOf Tryz.f5) ((.unit : Cd El Unit).enc ()) [] (fun y R => rd cdB (settleA R y) K) = (goodLoad loadA ∧ (argsB = argsB ∧
  preB (stA 0, 0)) ∧ (argsB = argsB ∧ preB (stA 56, 1)) ∧ (argsB = argsB ∧ preB (stA 56, 2)) ∧ (argsB = argsB ∧ preB (stA 56, 3)) ∧ (argsB = argsB ∧ preB (stA 56, 4)) ∧ (argsB = argsB ∧ preB (stA 56,
  5)) ∧ (argsB = argsB ∧ preB (stA 56, 6)) ∧ (argsB = argsB ∧ preB (stA 56, 7)) ∧ (ToldOk (stA 56) ∧ ∃ s0 : Unit, True ∧ (EqA (.list 22 ([65537, 131073] : List Int)) (.list 22 ([65537, 131073] : List
  Int)) ∧ True) ∧ bigA (stA 56) ∧ True) ∧ ∀ s : Unit, True → tailA K (stA 56)) := by kernel_rfl
def shortRead (e : Ev) : Bool := decide (e.ans.read.length ≤ 100000)
theorem readsA : (stA 56).ev.all shortRead = true := by kernel_rfl
theorem evsA : (stA 56).ev.length = 66 := by kernel_rfl
theorem toldOk_of {h : Hl} (hf : Fine h) : ToldOk h := ⟨hf.l, fun w => Nat.le_trans (hf.told w) (by omega)⟩
theorem fineA : Fine (stA 56) := by
  have hq := endA
  simp only [Bool.and_eq_true] at hq
  exact fine_of hq.1
noncomputable def gAwake : GSpec El := plain (.unit : Cd El Unit) cdB (fun _ => True) (fun _ => true)
theorem ok5 : GOk cx 5 gAwake := plain_ok ΓY_ok Tryz.func5 (body_of (by kernel_rfl)) Tryz.call5 (fun _ _ => ⟨specAwake, 100, by
  have e := vc_awake (fun b => b = true)
  refine Eq.mpr e ⟨⟨by decide, by decide⟩, ⟨rfl, .inl ⟨rfl, rfl⟩⟩, ⟨rfl, .inr ⟨by decide, rfl⟩⟩, ⟨rfl, .inr ⟨by decide, rfl⟩⟩, ⟨rfl, .inr ⟨by decide, rfl⟩⟩, ⟨rfl, .inr ⟨by decide, rfl⟩⟩, ⟨rfl, .inr ⟨by decide, rfl⟩⟩, ⟨rfl, .inr ⟨by decide, rfl⟩⟩, ⟨rfl, .inr ⟨by decide, rfl⟩⟩,
    ⟨toldOk_of fineA, (), trivial, ⟨rfl, trivial⟩, ⟨⟨trivial, trivial, trivial, rfl, rfl, trivial⟩, rfl, ⟨rfl, rfl⟩, rfl, rfl, rfl, rfl, rfl, rfl, rfl, rfl, rfl, trivial⟩, trivial⟩, fun _ _ => ⟨⟨?_, ?_⟩, ⟨by decide, by decide⟩, ⟨by decide, by decide⟩, ?_, rfl⟩⟩
  · rw [evsA]; omega
  · intro ev hev
    have h1 : shortRead ev = true := List.all_eq_true.1 readsA ev hev
    have h2 : ev.ans.read.length ≤ 100000 := of_decide_eq_true h1
    exact h2
  · rw [evsA]; decide⟩)
end Go.Proofs.YtaeepogbgflbpaaGreat
end

/- Whether a run is too great to be looked at: what the function computes, in plain Lean. No condition. -/
section
set_option linter.unusedVariables false
set_option linter.unusedSimpArgs false
set_option maxRecDepth 100000
set_option maxHeartbeats 1000000
namespace Go.Proofs.YtaeepogbgflbpaaGreat
open Go Go.Ax

abbrev aCLP : Cd El (Cfg × List (List OpD) × List Int) := .pair aCfg (.pair aLoad aL)
def greatB (y : Cfg × List (List OpD) × List Int) : Bool := (decide (checkV y.1 = 0) && (decide (12 < wr (y.1.s * y.1.b)) || decide (6 < y.1.e))) || decide (400 < y.2.2.length) || decide (4 < y.2.1.length) || y.2.1.any (fun l => decide (12 < l.length))
noncomputable def ΓG8 : FuncId → Option (GSpec El) := addΓ noΓ 32 (num aCfg checkV)
theorem ΓG8_ok : ∀ f g, ΓG8 f = some g → GOk cx f g := addΓ_ok noΓ_ok ok32
noncomputable def specGreat (load : List (List OpD)) : Nat → Option (St El → LSpec El) := addSpec noSpec 4 fun st =>
  { σ := Nat, slots := fun i => [(7, .int .i64 i)], res := fun _ => [], inv := fun i => i ≤ load.length ∧ (load.take i).any (fun l => decide (12 < l.length)) = false, meas := fun i => load.length - i }
def limP (y : Cfg × List (List OpD) × List Int) : Prop := True
end Go.Proofs.YtaeepogbgflbpaaGreat
end

/- Whether a run is too great: what the function computes, printed, and its contract. No condition. -/
section
set_option linter.unusedVariables false
set_option linter.unusedSimpArgs false
set_option maxRecDepth 100000
set_option maxHeartbeats 4000000
namespace Go.Proofs.YtaeepogbgflbpaaGreat
open Go Go.Ax

theorem vc_great (K : Bool → Prop) (x : Cfg) (load : List (List OpD)) (p : List Int) : aexecF cnd cx ΓG8 (specGreat load) 100 Tryz.f12 (codeOf Tryz.f12) (aCLP.enc (x, load, p)) [] (fun y R => rd cdB
  (settleA R y) K) = ( True ∧ cnd ((checkV x == (0 : Int)) == true) (cnd (decide (wr (x.s * x.b) > (12 : Int)) == false) (cnd (decide (x.e > (6 : Int)) == false) (cnd (decide ((↑(List.length p) : Int) >
  (400 : Int)) == false) (cnd (decide ((↑(List.length load) : Int) > (4 : Int))) (K true) ((∃ (s0 : Nat), (s0 ≤ List.length load ∧ (List.any (List.take s0 load) fun (l : List OpD) => decide ((12 : Nat)
  < List.length l)) = false) ∧ (EqA (AVal.int .i64 0) (AVal.int .i64 (↑s0 : Int)) ∧ True) ∧ (EqR (Res.cells 24 [AVal.int .i64 x.w, AVal.int .i64 x.s, AVal.int .i64 x.b, AVal.int .i64 x.o, AVal.int .i64
  x.e, AVal.int .i64 x.r, AVal.int .i64 x.a, AVal.int .u64 x.l]) (Res.cells 24 [AVal.int .i64 x.w, AVal.int .i64 x.s, AVal.int .i64 x.b, AVal.int .i64 x.o, AVal.int .i64 x.e, AVal.int .i64 x.r, AVal.int
  .i64 x.a, AVal.int .u64 x.l]) ∧ True) ∧ True) ∧ ∀ (s : Nat), s ≤ List.length load ∧ (List.any (List.take s load) fun (l : List OpD) => decide ((12 : Nat) < List.length l)) = false → cnd (decide ((↑s :
  Int) < (↑(List.length load) : Int))) (((0 : Int) ≤ (↑s : Int) ∧ (↑s : Int) < (↑(List.length load) : Int)) ∧ cnd (decide ((↑(List.length (List.getD load (Int.toNat (↑s : Int))
  (YtaeepogbgflbpaaGreat.K.dflt (tab (48 : TypeId))))) : Int) > (12 : Int))) (K true) (∃ (s' : Nat), (s' ≤ List.length load ∧ (List.any (List.take s' load) fun (l : List OpD) => decide ((12 : Nat) <
  List.length l)) = false) ∧ List.length load - s' < List.length load - s ∧ (EqA (AVal.int .i64 (wr ((↑s : Int) + (1 : Int)))) (AVal.int .i64 (↑s' : Int)) ∧ True) ∧ (EqR (Res.cells 24 [AVal.int .i64
  x.w, AVal.int .i64 x.s, AVal.int .i64 x.b, AVal.int .i64 x.o, AVal.int .i64 x.e, AVal.int .i64 x.r, AVal.int .i64 x.a, AVal.int .u64 x.l]) (Res.cells 24 [AVal.int .i64 x.w, AVal.int .i64 x.s, AVal.int
  .i64 x.b, AVal.int .i64 x.o, AVal.int .i64 x.e, AVal.int .i64 x.r, AVal.int .i64 x.a, AVal.int .u64 x.l]) ∧ True) ∧ True)) (K false))) (K true)) (K true)) (K true)) (cnd (decide ((↑(List.length p) :
  Int) > (400 : Int)) == false) (cnd (decide ((↑(List.length load) : Int) > (4 : Int))) (K true) ((∃ (s0 : Nat), (s0 ≤ List.length load ∧ (List.any (List.take s0 load) fun (l : List OpD) => decide ((12
  : Nat) < List.length l)) = false) ∧ (EqA (AVal.int .i64 0) (AVal.int .i64 (↑s0 : Int)) ∧ True) ∧ (EqR (Res.cells 24 [AVal.int .i64 x.w, AVal.int .i64 x.s, AVal.int .i64 x.b, AVal.int .i64 x.o,
  AVal.int .i64 x.e, AVal.int .i64 x.r, AVal.int .i64 x.a, AVal.int .u64 x.l]) (Res.cells 24 [AVal.int .i64 x.w, AVal.int .i64 x.s, AVal.int .i64 x.b, AVal.int .i64 x.o, AVal.int .i64 x.e, AVal.int .i64
  x.r, AVal.int .i64 x.a, AVal.int .u64 x.l]) ∧ True) ∧ True) ∧ ∀ (s : Nat), s ≤ List.length load ∧ (List.any (List.take s load) fun (l : List OpD) => decide ((12 : Nat) < List.length l)) = false → cnd
  (decide ((↑s : Int) < (↑(List.length load) : Int))) (((0 : Int) ≤ (↑s : Int) ∧ (↑s : Int) < (↑(List.length load) : Int)) ∧ cnd (decide ((↑(List.length (List.getD load (Int.toNat (↑s : Int))
  (YtaeepogbgflbpaaGreat.K.dflt (tab (48 : TypeId))))) : Int) > (12 : Int))) (K true) (∃ (s' : Nat), (s' ≤ List.length load ∧ (List.any (List.take s' load) fun (l : List OpD) => decide ((12 : Nat) <
  List.length l)) = false) ∧ List.length load - s' < List.length load - s ∧ (EqA (AVal.int .i64 (wr ((↑s : Int) + (1 : Int)))) (AVal.int .i64 (↑s' : Int)) ∧ True) ∧ (EqR (Res.cells 24 [AVal.int .i64
  x.w, AVal.int .i64 x.s, AVal.int .i64 x.b, AVal.int .i64 x.o, AVal.int .i64 x.e, AVal.int .i64 x.r, AVal.int .i64 x.a, AVal.int .u64 x.l]) (Res.cells 24 [AVal.int .i64 x.w, AVal.int .i64 x.s, AVal.int
  .i64 x.b, AVal.int .i64 x.o, AVal.int .i64 x.e, AVal.int .i64 x.r, AVal.int .i64 x.a, AVal.int .u64 x.l]) ∧ True) ∧ True)) (K false))) (K true))) := by kernel_rfl

theorem ok12 : GOk cx 12 (plain aCLP cdB (fun _ => True) greatB) := plain_ok ΓG8_ok Tryz.func12 (body_of (by kernel_rfl)) Tryz.call12 (fun ⟨x, load, p⟩ _ => ⟨specGreat load, 100, by
  have e := vc_great (fun b => b = greatB (x, load, p)) x load p
  refine Eq.mpr e ⟨trivial, ?_⟩
  clear e
  have loop : ∀ (h4 : ¬ 4 < load.length) (hb : greatB (x, load, p) = load.any (fun l => decide (12 < l.length))) (s : Nat), s ≤ load.length ∧ (load.take s).any (fun l => decide (12 < l.length)) = false → s < load.length →
      ((12 : Int) < ((load.getD s (K.dflt (tab (48 : TypeId)))).length : Int) → true = greatB (x, load, p)) ∧ (¬ (12 : Int) < ((load.getD s (K.dflt (tab (48 : TypeId)))).length : Int) → (load.take (s + 1)).any (fun l => decide (12 < l.length)) = false) := by
    intro h4 hb s ⟨hs, ha⟩ hl
    have t := take_any (fun l => decide (12 < l.length)) load s hl (K.dflt (tab (48 : TypeId)))
    refine ⟨fun h => ?_, fun h => ?_⟩
    · rw [hb]
      exact (any_of_take _ _ (s + 1) (by rw [t]; exact Bool.or_eq_true_iff.2 (.inr (decide_eq_true (by omega))))).symm
    · rw [t, ha, Bool.false_or]; exact decide_eq_false (by omega)
  refine cnd_intro (fun a => cnd_intro (fun b => cnd_intro (fun c => cnd_intro (fun d => cnd_intro (fun e => ?k1) (fun e => ?l1)) (fun d => ?k2)) (fun c => ?k3)) (fun b => ?k4)) (fun a => cnd_intro (fun d => cnd_intro (fun e => ?k5) (fun e => ?l2)) (fun d => ?k6))
  case l1 | l2 =>
    have h4 : ¬ 4 < load.length := by have := of_decide_eq_false e; omega
    have hb : greatB (x, load, p) = load.any (fun l => decide (12 < l.length)) := by
      simp only [beq_iff_eq, beq_eq_false_iff_ne, ne_eq, decide_eq_false_iff_not, decide_eq_true_eq, beq_true, beq_false, Bool.not_eq_true', Bool.not_eq_true] at *
      simp [greatB]
      omega
    refine ⟨⟨0, ⟨Nat.zero_le _, rfl⟩, ⟨rfl, trivial⟩, ⟨rfl, trivial⟩, trivial⟩, fun s hs => cnd_intro (fun q => ?_) (fun q => ?_)⟩
    · have q : s < load.length := by have := of_decide_eq_true q; omega
      obtain ⟨g1, g2⟩ := loop h4 hb s hs q
      refine ⟨⟨by omega, by omega⟩, ?_⟩
      rw [Int.toNat_natCast]
      exact cnd_intro (fun r => g1 (of_decide_eq_true r)) (fun r => ⟨s + 1, ⟨by omega, g2 (of_decide_eq_false r)⟩, by omega, ⟨next_of (n := 5) (by omega) (by omega), trivial⟩, ⟨rfl, trivial⟩, trivial⟩)
    · have q : ¬ s < load.length := by have := of_decide_eq_false q; omega
      have hs2 := hs.2
      rw [List.take_of_length_le (by omega)] at hs2
      rw [hb, hs2]
  all_goals
    clear loop
    simp_all [greatB]
  all_goals omega⟩)
end Go.Proofs.YtaeepogbgflbpaaGreat
end

/- A run played: what the function computes, in plain Lean. No condition. -/
section
set_option linter.unusedVariables false
set_option linter.unusedSimpArgs false
set_option maxRecDepth 100000
set_option maxHeartbeats 1000000
namespace Go.Proofs.YtaeepogbgflbpaaGreat
open Go Go.Ax

noncomputable def ΓG9 : FuncId → Option (GSpec El) := addΓ (addΓ (addΓ noΓ 12 (plain aCLP cdB (fun _ => True) greatB)) 10 gHall) 13 gRun
theorem ΓG9_ok : ∀ f g, ΓG9 f = some g → GOk cx f g := addΓ_ok (addΓ_ok (addΓ_ok noΓ_ok ok12) ok10) ok13
def playB (y : Cfg × List (List OpD) × List Int) : Bool := !greatB y && decide (newE (y.1, y.2.1) = 0)
def playH (y : Cfg × List (List OpD) × List Int) : Hl := runH (newH (y.1, y.2.1)) y.2.2
def playP (y : Cfg × List (List OpD) × List Int) : Prop := playB y = true → runP (newH (y.1, y.2.1)) y.2.2
noncomputable def gPlay : GSpec El := gnew GH aCLP .unit playP playB playH (fun _ => ())
end Go.Proofs.YtaeepogbgflbpaaGreat
end

/- A run played: what the function computes, printed, and its contract. No condition. -/
section
set_option linter.unusedVariables false
set_option linter.unusedSimpArgs false
set_option maxRecDepth 100000
set_option maxHeartbeats 4000000
namespace Go.Proofs.YtaeepogbgflbpaaGreat
open Go Go.Ax

theorem vc_played (K : Option Hl → Unit → Prop) (x : Cfg) (load : List (List OpD)) (p : List Int) : aexecF cnd cx ΓG9 noSpec 100 Tryz.f6 (codeOf Tryz.f6) (aCLP.enc (x, load, p)) [] (fun y R => rdNew
  GH Cd.unit y R K) = ( True ∧ cnd (greatB (x, load, p)) (K none ()) ((List.length load ≤ (1000 : Nat) ∧ ∀ (p : List OpD), p ∈ load → List.length p ≤ (1000 : Nat)) ∧ cnd (hallB (x, load)) (cnd (newE (x,
  load) != (0 : Int)) (K none ()) ((List.length p ≤ (1000 : Nat) ∧ ∀ (i : Nat), i < List.length p → Fine (stR (Hl.mk (Md.mk x (Acc.mk 0 0 0 0 0) (firstV x)) (newL x.w load (List.length load)) [] 0
  (Tk.mk [] [] [] [] [] [] [] [])) p i) ∧ (isW (stR (Hl.mk (Md.mk x (Acc.mk 0 0 0 0 0) (firstV x)) (newL x.w load (List.length load)) [] 0 (Tk.mk [] [] [] [] [] [] [] [])) p i) (List.getD p i (0 : Int))
  = true → ((wrAt (stR (Hl.mk (Md.mk x (Acc.mk 0 0 0 0 0) (firstV x)) (newL x.w load (List.length load)) [] 0 (Tk.mk [] [] [] [] [] [] [] [])) p i) (List.getD p i (0 : Int))).x.give = false ∧ (wrAt (stR
  (Hl.mk (Md.mk x (Acc.mk 0 0 0 0 0) (firstV x)) (newL x.w load (List.length load)) [] 0 (Tk.mk [] [] [] [] [] [] [] [])) p i) (List.getD p i (0 : Int))).x.line ∈ linesF ∨ (wrAt (stR (Hl.mk (Md.mk x
  (Acc.mk 0 0 0 0 0) (firstV x)) (newL x.w load (List.length load)) [] 0 (Tk.mk [] [] [] [] [] [] [] [])) p i) (List.getD p i (0 : Int))).x.give = true ∧ (wrAt (stR (Hl.mk (Md.mk x (Acc.mk 0 0 0 0 0)
  (firstV x)) (newL x.w load (List.length load)) [] 0 (Tk.mk [] [] [] [] [] [] [] [])) p i) (List.getD p i (0 : Int))).x.line ∈ linesT) ∨ (wrAt (stR (Hl.mk (Md.mk x (Acc.mk 0 0 0 0 0) (firstV x)) (newL
  x.w load (List.length load)) [] 0 (Tk.mk [] [] [] [] [] [] [] [])) p i) (List.getD p i (0 : Int))).x.line = (0 : Int))) ∧ K (some (runH (Hl.mk (Md.mk x (Acc.mk 0 0 0 0 0) (firstV x)) (newL x.w load
  (List.length load)) [] 0 (Tk.mk [] [] [] [] [] [] [] [])) p)) ())) (cnd (newE (x, load) != (0 : Int)) (K none ()) False))) := by kernel_rfl

theorem great_load {x : Cfg} {load : List (List OpD)} {p : List Int} (h : greatB (x, load, p) = false) : load.length ≤ 4 ∧ p.length ≤ 400 ∧ ∀ l ∈ load, l.length ≤ 12 := by
  unfold greatB at h
  simp only [Bool.or_eq_false_iff, decide_eq_false_iff_not, List.any_eq_false, decide_eq_true_eq] at h
  exact ⟨by omega, by omega, fun l hl => by have := h.2 l hl; omega⟩
theorem ok6 : GOk cx 6 gPlay := gnew_ok ΓG9_ok Tryz.func6 (body_of (by kernel_rfl)) Tryz.call6 (fun ⟨x, load, p⟩ hp => ⟨noSpec, 100, by
  have hp : playB (x, load, p) = true → runP (newH (x, load)) p := hp
  have e := vc_played (fun o b => b = () ∧ match o with | some s => playB (x, load, p) = true ∧ s = playH (x, load, p) | none => playB (x, load, p) = false) x load p
  refine Eq.mpr e ⟨trivial, cnd_intro (fun c1 => ⟨rfl, ?_⟩) (fun c1 => ⟨?_, cnd_intro (fun c2 => cnd_intro (fun c3 => ⟨rfl, ?_⟩) (fun c3 => ?_)) (fun c2 => cnd_intro (fun c3 => ⟨rfl, ?_⟩) (fun c3 => ?_))⟩)⟩
  · show playB (x, load, p) = false
    unfold playB; rw [c1]; rfl
  · obtain ⟨h1, h2, h3⟩ := great_load c1
    exact ⟨by omega, fun l hl => by have := h3 l hl; omega⟩
  · show playB (x, load, p) = false
    have c3 : ¬ newE (x, load) = 0 := by simpa using c3
    unfold playB; rw [decide_eq_false c3, Bool.and_false]
  · have c3 : newE (x, load) = 0 := by simpa using c3
    have hB : playB (x, load, p) = true := by unfold playB; rw [c1, decide_eq_true c3]; rfl
    exact ⟨hp hB, rfl, hB, rfl⟩
  · show playB (x, load, p) = false
    have c3 : ¬ newE (x, load) = 0 := by simpa using c3
    unfold playB; rw [decide_eq_false c3, Bool.and_false]
  · have c2 : ¬ newE (x, load) = 0 := of_decide_eq_false c2
    exact absurd (show newE (x, load) = 0 by simpa using c3) c2⟩)
end Go.Proofs.YtaeepogbgflbpaaGreat
end

/- What the laws on tickets and on events share. No condition. -/
section
set_option linter.unusedVariables false
set_option linter.unusedSimpArgs false
set_option maxRecDepth 100000
set_option maxHeartbeats 1000000
namespace Go.Proofs.YtaeepogbgflbpaaGreat
open Go Go.Ax

/-- All tickets of the first workers. -/
def allT (h : Hl) (n : Nat) : List Int := (List.range n).flatMap fun w : Nat => toldH h (w : Int)
def mapOf (st : St El) (d : Nat) : Nat := match nth st.slots d with
  | .mapr r => r
  | _ => 0
def withNum (st : St El) (d : Nat) (f : Nat → LSpec El) : LSpec El := match nth st.slots d with
  | .int _ n => f n.toNat
  | _ => f 0
/-- An Alloc's point. -/
def isAl (e : Ev) : Bool := decide (e.kind = 3 ∧ e.ans.op.k = 3 ∧ e.ans.ret = 0)
/-- Not the end of an operation on a ticket. -/
def skipB (e : Ev) : Bool := decide (e.kind ≠ 4 ∨ (e.ans.op.k ≠ 4 ∧ e.ans.op.k ≠ 5 ∧ e.ans.op.k ≠ 6))
/-- A forged ticket was heeded. -/
def badB (b : Bool) (e : Ev) : Bool := decide (b = false ∧ ((e.ans.ret ≠ 7 ∧ e.ans.ret ≠ 8 ∧ e.ans.ret ≠ 5) ∨ e.ans.read.length ≠ 0 ∨ (e.ans.ret = 5 ∧ e.ans.op.k ≠ 5)))
/-- A Free that worked. -/
def isFr (e : Ev) : Bool := decide (e.ans.op.k = 4 ∧ e.ans.ret = 0)
def tStep (m : List (Int × Bool)) (e : Ev) : List (Int × Bool) := if isAl e = true then setM m e.ans.t true else m
def fStep (m : List (Int × Bool)) (e : Ev) : List (Int × Bool) := if skipB e = false ∧ isFr e = true then setM m e.ans.t true else m
def toldE (l : List Ev) : List (Int × Bool) := l.foldl tStep []
def freedE (l : List Ev) : List (Int × Bool) := l.foldl fStep []
def evAt (h : Hl) (i : Nat) : Ev := h.ev.getD i ev0
theorem find_set (m : List (Int × Bool)) (t u : Int) (x : Bool) : findM (setM m t x) u = if u = t then some x else findM m u := by
  induction m with
  | nil => simp [setM, findM]
  | cons p m ih =>
    by_cases h : t = p.1
    · by_cases hu : u = t
      · simp [setM, findM, h, hu]
      · simp only [setM, if_pos h, findM, if_neg hu]
        rw [if_neg (by omega)]
    · simp only [setM, if_neg h, findM, ih]
      by_cases h1 : u = p.1
      · rw [if_pos h1, if_pos h1, if_neg (by omega)]
      · rw [if_neg h1, if_neg h1]
theorem getM_set (m : List (Int × Bool)) (t u : Int) : getM (setM m t true) u false = (decide (u = t) || getM m u false) := by
  unfold getM
  rw [find_set]
  by_cases h : u = t
  · subst h; simp
  · simp [h]
theorem play_valid {x : Cfg} {load : List (List OpD)} {p : List Int} (h : playB (x, load, p) = true) : checkV x = 0 := by
  unfold playB newE at h
  simp only [Bool.and_eq_true, decide_eq_true_eq] at h
  by_cases hv : checkV x = 0
  · exact hv
  · have h2 := h.2
    rw [if_neg hv] at h2
    exact h2
end Go.Proofs.YtaeepogbgflbpaaGreat
end

/- The arguments of the statements on whole runs stand for plain data. No condition. -/
section
set_option linter.unusedVariables false
set_option maxRecDepth 100000
namespace Go.Proofs.YtaeepogbgflbpaaGreat
open Go Go.Ax

theorem h3 : Opn Tryz.prog lay 3 aI (fun n => (Lit.int .i64 n).wf = true) := Opn.int Tryz.underlying3
theorem h22 : Opn Tryz.prog lay 22 aU (fun n => (Lit.int .u64 n).wf = true) := Opn.int Tryz.underlying22
theorem h4 : Opn Tryz.prog lay 4 Cd.bool (fun _ => True) := Opn.bool Tryz.underlying4
theorem c3 : Tryz.prog.cellsOf 3 = 1 := by kernel_rfl
theorem c22 : Tryz.prog.cellsOf 22 = 1 := by kernel_rfl
theorem c4 : Tryz.prog.cellsOf 4 = 1 := by kernel_rfl
theorem c24 : Tryz.prog.cellsOf 24 = 8 := by kernel_rfl
theorem c38 : Tryz.prog.cellsOf 38 = 7 := by kernel_rfl
theorem h26 : Opn Tryz.prog lay 26 aL (fun _ => True) := (Opn.slice Tryz.underlying26 (aI : Cd El Int) (fun x => rfl) (by kernel_rfl) (by decide +kernel) h3).mono (fun _ _ => trivial)
theorem h38 : Opn Tryz.prog lay 38 cdOp (fun _ => True) := (Opn.struct Tryz.underlying38 (d := cdOp) (OpnF.iso (OpnF.cons h3 (by rw [c3]) (OpnF.cons h22 (by rw [c22]) (OpnF.cons h22 (by rw [c22]) (OpnF.cons h3 (by rw [c3]) (OpnF.cons h4 (by rw [c4]) (OpnF.cons h3 (by rw [c3]) (OpnF.last h3 (by rw [c3, c38])))))))) _ _ _)).mono (fun _ _ => trivial)
theorem h48 : Opn Tryz.prog lay 48 aOps (fun _ => True) := (Opn.slice Tryz.underlying48 (cdOp : Cd El OpD) (fun x => rfl) (by kernel_rfl) (by decide +kernel) h38).mono (fun _ _ => trivial)
theorem h25 : Opn Tryz.prog lay 25 aLoad (fun _ => True) := (Opn.slice Tryz.underlying25 (aOps : Cd El (List OpD)) (fun x => rfl) (by kernel_rfl) (by decide +kernel) h48).mono (fun _ _ => trivial)
theorem h24 : Opn Tryz.prog lay 24 cdCfg (fun _ => True) := (Opn.struct Tryz.underlying24 (d := cdCfg) (OpnF.iso (OpnF.cons h3 (by rw [c3]) (OpnF.cons h3 (by rw [c3]) (OpnF.cons h3 (by rw [c3]) (OpnF.cons h3 (by rw [c3]) (OpnF.cons h3 (by rw [c3]) (OpnF.cons h3 (by rw [c3]) (OpnF.cons h3 (by rw [c3]) (OpnF.last h22 (by rw [c22, c24]))))))))) _ _ _)).mono (fun _ _ => trivial)
theorem opn_cfg : OpnV Tryz.prog lay 24 aCfg (fun _ => True) := OpnV.agg h24 (by kernel_rfl)
theorem opn_load : OpnV Tryz.prog lay 25 aLoad (fun _ => True) := OpnV.one h25 (by kernel_rfl)
theorem opn_ints : OpnV Tryz.prog lay 26 aL (fun _ => True) := OpnV.one h26 (by kernel_rfl)
theorem opn_whole : OpnL Tryz.prog lay [24, 25, 26] aCLP (fun _ => True) := fun H enc w base vs ds ps h hv => by
  obtain ⟨a, h1, _⟩ := OpnL.cons opn_cfg (OpnL.cons opn_load (OpnL.last opn_ints)) H enc w base vs ds ps h hv
  exact ⟨a, h1, trivial⟩
theorem own : ownKnob Tryz.prog.godebug = none := by kernel_rfl
end Go.Proofs.YtaeepogbgflbpaaGreat
end

/- Plain facts on the words of entries, heads and tickets. No condition. -/
section
set_option linter.unusedVariables false
set_option linter.unusedSimpArgs false
set_option maxRecDepth 100000
namespace Go.Proofs.YtaeepogbgflbpaaGreat
open Go Go.Ax

theorem wrap64 (n : Int) : IntKind.u64.wrap n = n % 18446744073709551616 := by simp [IntKind.wrap, IntKind.bits, IntKind.signed]
theorem wrap32 (n : Int) : IntKind.u32.wrap n = n % 4294967296 := by simp [IntKind.wrap, IntKind.bits, IntKind.signed]
theorem wrap16 (n : Int) : IntKind.u16.wrap n = n % 65536 := by simp [IntKind.wrap, IntKind.bits, IntKind.signed]
theorem wrap8 (n : Int) : IntKind.u8.wrap n = n % 256 := by simp [IntKind.wrap, IntKind.bits, IntKind.signed]
theorem wrap64_in (n : Int) (h₀ : 0 ≤ n) (h₁ : n < 2 ^ 64) : IntKind.u64.wrap n = n := by rw [wrap64]; omega
theorem wu_eq (n : Int) : wu n = n % 18446744073709551616 := wrap64 n
theorem wr_mod (n : Int) (m : Int) (hm : m = 4294967296 ∨ m = 65536) : wr n % m = n % m := by
  unfold wr
  simp only [IntKind.wrap, IntKind.bits, IntKind.signed]
  rcases hm with rfl | rfl
  · simp; split <;> omega
  · simp; split <;> omega
theorem or64' (i : Nat) (x y : Int) (hx₀ : 0 ≤ x) (hx : x % 2 ^ i = 0) (hx₁ : x < 2 ^ 64) (hy₀ : 0 ≤ y) (hy : y < 2 ^ i) (hy₁ : y < 2 ^ 64) : bits .or .u64 x y = x + y :=
  bits_join .u64 64 (by decide) wrap64_in i x y hx₀ hx hx₁ hy₀ hy hy₁
theorem headW_eq (p v : Int) : headW p v = v % 4294967296 * 4294967296 + (p + 1) % 4294967296 := by
  unfold headW
  rw [wu_eq, wu_eq, wrap32, wr_mod _ _ (.inl rfl), or64' 32 _ _ (by omega) (by omega) (by omega) (by omega) (by omega) (by omega)]
  omega
theorem fdiv_pos (a b : Int) (hb : 0 ≤ b) : Int.fdiv a b = a / b := Int.fdiv_eq_ediv_of_nonneg a hb
theorem entS_eq (w : Int) : entS w = w % 16 := by
  unfold entS slbS
  rw [wrap8, wrap8, fdiv_pos _ _ (by decide), wr_in (by omega)]
  omega
theorem entG_eq (w : Int) : entG w = w / 1048576 := fdiv_pos _ _ (by decide)
theorem hdV_eq (w : Int) : hdV w = w / 4294967296 := fdiv_pos _ _ (by decide)
theorem lowW_eq (w : Int) : lowW w = w % 4294967296 := by unfold lowW; rw [wrap32, wu_eq]; omega
theorem tkG_eq (w : Int) : tkG w = w / 65536 := fdiv_pos _ _ (by decide)
theorem tkE_eq (w : Int) : tkE w = w % 65536 - 1 := by unfold tkE; rw [wrap16, wr_in (n := w % 65536) (by omega), wr_in (by omega)]
theorem entryW_eq (g b s : Int) : entryW g b s = g % 17592186044416 * 1048576 + (b + 1) % 65536 * 16 + s % 16 := by
  unfold entryW
  rw [wrap16, wrap8, wrap8, wr_mod _ _ (.inr rfl), fdiv_pos _ _ (by decide), wu_eq, wu_eq, wu_eq, wu_eq]
  rw [or64' 20 (g * 1048576 % 18446744073709551616) ((b + 1) % 65536 % 18446744073709551616 * 16 % 18446744073709551616) (by omega) (by omega) (by omega) (by omega) (by omega) (by omega)]
  rw [or64' 4 _ _ (by omega) (by omega) (by omega) (by omega) (by omega) (by omega)]
  omega
theorem tickW_eq (e g : Int) : tickW e g = g % 281474976710656 * 65536 + (e + 1) % 65536 := by
  unfold tickW
  rw [wrap16, wr_mod _ _ (.inr rfl), wu_eq, wu_eq, or64' 16 _ _ (by omega) (by omega) (by omega) (by omega) (by omega) (by omega)]
  omega
theorem entG_entryW {g b s : Int} (h : 0 ≤ g ∧ g ≤ 1048577) : entG (entryW g b s) = g := by rw [entG_eq, entryW_eq]; omega
theorem entS_entryW {g b s : Int} (h : 0 ≤ s ∧ s ≤ 15) : entS (entryW g b s) = s := by rw [entS_eq, entryW_eq]; omega
theorem entryW_pos (g b s : Int) : 0 ≤ entryW g b s := by rw [entryW_eq]; omega
theorem hdV_headW {p v : Int} (h : 0 ≤ v ∧ v < 4294967296) : hdV (headW p v) = v := by rw [hdV_eq, headW_eq]; omega
theorem lowW_headW {p v : Int} (h : 0 ≤ p + 1 ∧ p + 1 < 4294967296) : lowW (headW p v) = p + 1 := by rw [lowW_eq, headW_eq]; omega
theorem tkE_tickW {e g : Int} (h : 0 ≤ e ∧ e < 65535) : tkE (tickW e g) = e := by rw [tkE_eq, tickW_eq]; omega
theorem tkG_tickW {e g : Int} (h : 0 ≤ g ∧ g ≤ 1048577) : tkG (tickW e g) = g := by rw [tkG_eq, tickW_eq]; omega
theorem ticket_inj {t u : Int} (h1 : tkE t = tkE u) (h2 : tkG t = tkG u) : t = u := by rw [tkE_eq, tkE_eq] at h1; rw [tkG_eq, tkG_eq] at h2; omega
end Go.Proofs.YtaeepogbgflbpaaGreat
end

/- Plain facts on the memory: which words a step changes. No condition. -/
section
set_option linter.unusedVariables false
set_option linter.unusedSimpArgs false
set_option maxRecDepth 100000
namespace Go.Proofs.YtaeepogbgflbpaaGreat
open Go Go.Ax

/-- The word of an entry, its link, and the head of the stack of entries. -/
def Ew (m : Md) (e : Int) : Int := atM m (entryV m.c e)
def Lw (m : Md) (e : Int) : Int := atM m (entryLinkV m.c e)
def Hw (m : Md) : Int := atM m 2
/-- The words of a configuration's memory are there. -/
structure Whl (m : Md) : Prop where
  v : checkV m.c = 0
  len : (m.ws.length : Int) = sizeV m.c
/-- Only one word may differ. -/
structure Only (m m' : Md) (a : Int) : Prop where
  c : m'.c = m.c
  len : m'.ws.length = m.ws.length
  at_ : ∀ b, 0 ≤ b → b ≠ a → atM m' b = atM m b
/-- Entries, links and head are the same. -/
structure Ent (m m' : Md) : Prop where
  c : m'.c = m.c
  len : m'.ws.length = m.ws.length
  hd : Hw m' = Hw m
  e : ∀ e, 0 ≤ e → e < m.c.e → Ew m' e = Ew m e
  l : ∀ e, 0 ≤ e → e < m.c.e → Lw m' e = Lw m e
/-- An address of no entry, no link and not the head. -/
def offB (c : Cfg) (a : Int) : Prop := a ≠ 2 ∧ (a < 3 + c.w + c.s ∨ 3 + c.w + c.s + 2 * c.e ≤ a)

theorem atM_set {l : List Int} {a b v : Int} (ha : 0 ≤ a) (hb : 0 ≤ b) (h : b ≠ a) : (l.set a.toNat v).getD b.toNat 0 = l.getD b.toNat 0 := by
  rw [List.getD_eq_getElem?_getD, List.getElem?_set, if_neg (by omega), ← List.getD_eq_getElem?_getD]
theorem atM_set_same {l : List Int} {a v : Int} (h : 0 ≤ a ∧ a < (l.length : Int)) : (l.set a.toNat v).getD a.toNat 0 = v := by
  rw [List.getD_eq_getElem?_getD, List.getElem?_set, if_pos rfl, if_pos (by omega)]; rfl
theorem only_ld (m : Md) (i a : Int) : Only m (ld m i) a := ⟨rfl, rfl, fun _ _ _ => rfl⟩
theorem only_sto (m : Md) (a v : Int) : Only m (sto m a v) a := by
  have hc : (sto m a v).ws = if inM m a = true then m.ws.set a.toNat v else m.ws := rfl
  refine ⟨rfl, ?_, fun b hb hne => ?_⟩
  · rw [hc]; split <;> simp
  · unfold atM; rw [hc]
    split
    · rename_i h
      unfold inM at h; rw [decide_eq_true_eq] at h
      exact atM_set h.1 hb hne
    · rfl
theorem only_cas (m : Md) (a x v : Int) : Only m (cas m a x v) a := by
  have hc : (cas m a x v).ws = if casB m a x = true then m.ws.set a.toNat v else m.ws := rfl
  refine ⟨rfl, ?_, fun b hb hne => ?_⟩
  · rw [hc]; split <;> simp
  · unfold atM; rw [hc]
    split
    · rename_i h
      unfold casB inM at h; rw [Bool.and_eq_true, decide_eq_true_eq] at h
      exact atM_set h.1.1 hb hne
    · rfl
theorem only_add (m : Md) (a v : Int) : Only m (addM (clearM m) a v).1 a := by
  have hc : (addM (clearM m) a v).1.ws = if inM m a = true then m.ws.set a.toNat (addV (clearM m) a v) else m.ws := rfl
  refine ⟨rfl, ?_, fun b hb hne => ?_⟩
  · rw [hc]; split <;> simp
  · unfold atM; rw [hc]
    split
    · rename_i h
      unfold inM at h; rw [decide_eq_true_eq] at h
      exact atM_set h.1 hb hne
    · rfl
theorem sto_same {m : Md} {a v : Int} (h : 0 ≤ a ∧ a < (m.ws.length : Int)) : atM (sto m a v) a = v := by
  have hc : (sto m a v).ws = if inM m a = true then m.ws.set a.toNat v else m.ws := rfl
  have hi : inM m a = true := by unfold inM; exact decide_eq_true h
  unfold atM; rw [hc, if_pos hi]; exact atM_set_same h
theorem cas_yes {m : Md} {a x v : Int} (h : casOk m a x = true) : atM m a = x ∧ atM (cas m a x v) a = v := by
  have hc : (cas m a x v).ws = if casB m a x = true then m.ws.set a.toNat v else m.ws := rfl
  have h' : casB m a x = true := h
  have g := h'
  unfold casB inM at g
  rw [Bool.and_eq_true, decide_eq_true_eq, decide_eq_true_eq] at g
  refine ⟨g.2, ?_⟩
  unfold atM; rw [hc, if_pos h']; exact atM_set_same g.1
theorem cas_no {m : Md} {a x v : Int} (h : casOk m a x = false) : (cas m a x v).c = m.c ∧ (cas m a x v).ws = m.ws := by
  have hc : (cas m a x v).ws = if casB m a x = true then m.ws.set a.toNat v else m.ws := rfl
  refine ⟨rfl, ?_⟩
  rw [hc, if_neg]
  have : casB m a x = false := h
  rw [this]; decide
theorem rd0_in {m : Md} {a : Int} (h : 0 ≤ a ∧ a < (m.ws.length : Int)) : rd0 m a = atM m a := by
  have hi : inM (clearM m) a = true := by unfold inM; exact decide_eq_true h
  unfold rd0 rdW; rw [if_pos hi]; rfl
theorem ent_same {m m' : Md} (hc : m'.c = m.c) (hw : m'.ws = m.ws) : Ent m m' := by
  obtain ⟨c, s, ws⟩ := m
  obtain ⟨c', s', ws'⟩ := m'
  dsimp only at hc hw
  subst hc; subst hw
  exact ⟨rfl, rfl, rfl, fun _ _ _ => rfl, fun _ _ _ => rfl⟩
theorem Ent.refl (m : Md) : Ent m m := ent_same rfl rfl
theorem ent_ld (m : Md) (i : Int) : Ent m (ld m i) := ent_same rfl rfl
theorem Whl.ent {m m' : Md} (h : Whl m) (e : Ent m m') : Whl m' := ⟨by rw [e.c]; exact h.v, by rw [e.len, e.c]; exact h.len⟩
theorem Whl.only {m m' : Md} {a : Int} (h : Whl m) (e : Only m m' a) : Whl m' := ⟨by rw [e.c]; exact h.v, by rw [e.len, e.c]; exact h.len⟩
section
variable {m : Md}
theorem Whl.ea (h : Whl m) {e : Int} (he : 0 ≤ e ∧ e < m.c.e) : entryV m.c e = 3 + m.c.w + m.c.s + 2 * e := (sizes_of h.v).entry he
theorem Whl.la (h : Whl m) {e : Int} (he : 0 ≤ e ∧ e < m.c.e) : entryLinkV m.c e = 3 + m.c.w + m.c.s + 2 * e + 1 := (sizes_of h.v).entryLink he
theorem Whl.size (h : Whl m) : 3 + m.c.w + m.c.s + 2 * m.c.e < (m.ws.length : Int) := by
  have := (sizes_of h.v).size; have := (sizes_of h.v).pb; rw [h.len]; omega
theorem Whl.ein (h : Whl m) {e : Int} (he : 0 ≤ e ∧ e < m.c.e) : 0 ≤ entryV m.c e ∧ entryV m.c e < (m.ws.length : Int) := by
  have := h.size; have := (sizes_of h.v).w; have := (sizes_of h.v).s; rw [h.ea he]; omega
theorem Whl.lin (h : Whl m) {e : Int} (he : 0 ≤ e ∧ e < m.c.e) : 0 ≤ entryLinkV m.c e ∧ entryLinkV m.c e < (m.ws.length : Int) := by
  have := h.size; have := (sizes_of h.v).w; have := (sizes_of h.v).s; rw [h.la he]; omega
theorem Whl.hin (h : Whl m) : 0 ≤ (2 : Int) ∧ 2 < (m.ws.length : Int) := by
  have := h.size; have := (sizes_of h.v).w; have := (sizes_of h.v).s; have := (sizes_of h.v).e; omega
theorem Only.ent {m m' : Md} {a : Int} (o : Only m m' a) (h : Whl m) (ho : offB m.c a) : Ent m m' := by
  have h1 := (sizes_of h.v).w
  have h2 := (sizes_of h.v).s
  have h3 := (sizes_of h.v).e
  unfold offB at ho
  refine ⟨o.c, o.len, o.at_ 2 (by omega) (by omega), fun e h0 he => ?_, fun e h0 he => ?_⟩
  · unfold Ew; rw [o.c]
    have := h.ea ⟨h0, he⟩
    exact o.at_ _ (by omega) (by omega)
  · unfold Lw; rw [o.c]
    have := h.la ⟨h0, he⟩
    exact o.at_ _ (by omega) (by omega)
theorem atV_or (c : Cfg) (f i n k : Int) : atV c f i n k = -1 ∨ (0 ≤ i ∧ i < n ∧ checkV c = 0 ∧ atV c f i n k = wr (f + wr (i * k))) := by
  unfold atV
  by_cases h : i < 0 ∨ n ≤ i ∨ checkV c ≠ 0
  · left; rw [if_pos h]
  · right; rw [if_neg h]; refine ⟨by omega, by omega, by omega, rfl⟩
theorem out_neg {m : Md} (h : Whl m) : offB m.c (-1) := by
  have h1 := (sizes_of h.v).w
  have h2 := (sizes_of h.v).s
  unfold offB; omega
theorem out_low {m : Md} (h : Whl m) {a : Int} (ha : a = 0 ∨ a = 1) : offB m.c a := by
  have h1 := (sizes_of h.v).w
  have h2 := (sizes_of h.v).s
  unfold offB; omega
theorem out_announce {m : Md} (h : Whl m) (i : Int) : offB m.c (announceV m.c i) := by
  have h1 := (sizes_of h.v).w
  have h2 := (sizes_of h.v).s
  rcases atV_or m.c 3 i m.c.w 1 with g | ⟨g1, g2, g3, g4⟩
  · unfold announceV; rw [g]; exact out_neg h
  · rw [(sizes_of h.v).announce ⟨g1, g2⟩]; unfold offB; omega
theorem out_slab {m : Md} (h : Whl m) (i : Int) : offB m.c (slabV m.c i) := by
  have h1 := (sizes_of h.v).w
  have h2 := (sizes_of h.v).s
  rcases atV_or m.c (slabsV m.c) i m.c.s 1 with g | ⟨g1, g2, g3, g4⟩
  · unfold slabV; rw [g]; exact out_neg h
  · rw [(sizes_of h.v).slab ⟨g1, g2⟩]; unfold offB; omega
theorem blockLink_or {m : Md} (h : Whl m) (i : Int) : blockLinkV m.c i = -1 ∨ (0 ≤ i ∧ i < m.c.s * m.c.b) := by
  rcases atV_or m.c (blocksV m.c) i (totalV m.c) (wr (1 + m.c.o)) with g | ⟨g1, g2, g3, g4⟩
  · left; exact g
  · right; rw [(sizes_of h.v).total] at g2; exact ⟨g1, g2⟩
theorem out_blockLink {m : Md} (h : Whl m) (i : Int) : offB m.c (blockLinkV m.c i) := by
  have h1 := (sizes_of h.v).w
  have h2 := (sizes_of h.v).s
  rcases blockLink_or h i with g | g
  · rw [g]; exact out_neg h
  · have h3 := (sizes_of h.v).e
    rw [(sizes_of h.v).blockLink g]; have := ((sizes_of h.v).step g).1; unfold offB; omega
theorem out_word {m : Md} (h : Whl m) (i k : Int) : offB m.c (wordV m.c i k) := by
  have h1 := (sizes_of h.v).w
  have h2 := (sizes_of h.v).s
  by_cases hc : 0 ≤ blockLinkV m.c i ∧ 0 ≤ k ∧ k < m.c.o
  · rcases blockLink_or h i with g | g
    · omega
    · have h3 := (sizes_of h.v).e
      rw [(sizes_of h.v).word g hc.2]; have := ((sizes_of h.v).step g).1; unfold offB; omega
  · unfold wordV; rw [if_neg hc]; exact out_neg h
end
end Go.Proofs.YtaeepogbgflbpaaGreat
end

/- Plain facts on a worker's state: which fields the parts of a step keep. No condition. -/
section
set_option linter.unusedVariables false
set_option linter.unusedSimpArgs false
set_option maxRecDepth 100000
namespace Go.Proofs.YtaeepogbgflbpaaGreat
open Go Go.Ax

/-- An operation on its way out: it releases blocks, hides its pin, or is over. -/
def cls (a : Wk) : Prop := (a.give = true ∧ (a.line = 13 ∨ a.line = 14 ∨ a.line = 15 ∨ a.line = 30 ∨ a.line = 31 ∨ a.line = 32 ∨ a.line = 39)) ∨ (a.give = false ∧ (a.line = 90 ∨ a.line = 0))
/-- What concerns tickets is the same. -/
structure Keep (a b : Wk) : Prop where
  op : b.op = a.op
  t : b.t = a.t
  ret : b.ret = a.ret
  read : b.read = a.read
  i : b.i = a.i
/-- The place in the operation is the same, too. -/
structure Same (a b : Wk) : Prop where
  op : b.op = a.op
  t : b.t = a.t
  ret : b.ret = a.ret
  read : b.read = a.read
  i : b.i = a.i
  give : b.give = a.give
  line : b.line = a.line
  v : b.v = a.v
theorem Keep.refl (a : Wk) : Keep a a := ⟨rfl, rfl, rfl, rfl, rfl⟩
theorem Keep.trans {a b c : Wk} (h : Keep a b) (g : Keep b c) : Keep a c := ⟨g.op.trans h.op, g.t.trans h.t, g.ret.trans h.ret, g.read.trans h.read, g.i.trans h.i⟩
theorem Same.refl (a : Wk) : Same a a := ⟨rfl, rfl, rfl, rfl, rfl, rfl, rfl, rfl⟩
theorem Same.trans {a b c : Wk} (h : Same a b) (g : Same b c) : Same a c := ⟨g.op.trans h.op, g.t.trans h.t, g.ret.trans h.ret, g.read.trans h.read, g.i.trans h.i, g.give.trans h.give, g.line.trans h.line, g.v.trans h.v⟩
theorem Same.keep {a b : Wk} (h : Same a b) : Keep a b := ⟨h.op, h.t, h.ret, h.read, h.i⟩
theorem same_setBag (x : Wk) (i t : Int) (l : List Int) : Same x (setBag x i t l) := by
  unfold setBag; split
  · exact ⟨rfl, rfl, rfl, rfl, rfl, rfl, rfl, rfl⟩
  · split <;> exact ⟨rfl, rfl, rfl, rfl, rfl, rfl, rfl, rfl⟩
theorem same_hold (x : Wk) (l : List Int) : Same x (holdW (x, l)) := ⟨rfl, rfl, rfl, rfl, rfl, rfl, rfl, rfl⟩
theorem same_now (x : Wk) : Same x (nowX x) := by
  unfold nowX; split
  · exact Same.refl x
  · exact (same_hold x _).trans (same_setBag _ _ _ _)
theorem same_bagPut (c : Cfg) (x : Wk) (b : Int) : Same x (bagPut (c, x, b)).1 := by
  unfold bagPut; dsimp only; split
  · exact (same_now x).trans (same_setBag _ _ _ _)
  · exact same_now x
theorem same_putX (m : Md) (x : Wk) (c : Int) : Same x (putX m x c) := same_bagPut m.c x _
theorem same_ripe1 (x : Wk) (i e : Int) : Same x (ripe1 x i e) := by
  unfold ripe1; split
  · exact (same_hold x _).trans (same_setBag _ _ _ _)
  · exact Same.refl x
theorem same_ripe (x : Wk) (e : Int) : Same x (ripeW (x, e)) := by
  unfold ripeW; exact ((same_ripe1 _ _ _).trans (same_ripe1 _ _ _)).trans (same_ripe1 _ _ _)
theorem same_putW (c : Cfg) (x : Wk) (b : Int) : Same x (putW (c, x, b)).1 := by
  unfold putW; dsimp only; split
  · exact Same.refl x
  · exact ⟨rfl, rfl, rfl, rfl, rfl, rfl, rfl, rfl⟩
theorem through_ok (x : Wk) : Keep x (throughW x) ∧ cls (throughW x) := by
  unfold throughW; split
  · exact ⟨⟨rfl, rfl, rfl, rfl, rfl⟩, .inr ⟨rfl, .inl rfl⟩⟩
  · exact ⟨⟨rfl, rfl, rfl, rfl, rfl⟩, .inr ⟨rfl, .inr rfl⟩⟩
theorem giveBack_ok (x : Wk) : Keep x (giveBackW x) ∧ cls (giveBackW x) := by
  unfold giveBackW; split
  · obtain ⟨h1, h2⟩ := through_ok { x with give := true, line := 0 }
    exact ⟨⟨h1.op, h1.t, h1.ret, h1.read, h1.i⟩, h2⟩
  · rename_i hh
    unfold giveBeginW
    have hh' : ¬ ({ x with give := true } : Wk).hold = [] := hh
    rw [if_neg hh']
    have hn : (nextW { x with give := true }).1.op = x.op ∧ (nextW { x with give := true }).1.t = x.t ∧ (nextW { x with give := true }).1.ret = x.ret ∧ (nextW { x with give := true }).1.read = x.read ∧ (nextW { x with give := true }).1.i = x.i ∧ (nextW { x with give := true }).1.give = true := by
      unfold nextW; split <;> exact ⟨rfl, rfl, rfl, rfl, rfl, rfl⟩
    generalize nextW { x with give := true } = q at hn ⊢
    exact ⟨⟨hn.1, hn.2.1, hn.2.2.1, hn.2.2.2.1, hn.2.2.2.2.1⟩, .inl ⟨hn.2.2.2.2.2, .inr (.inr (.inr (.inr (.inr (.inr rfl)))))⟩⟩
theorem fail_ok (x : Wk) (e : Int) : Keep { x with ret := e } (failW (x, e)) ∧ cls (failW (x, e)) := by
  unfold failW; split
  · obtain ⟨h1, h2⟩ := giveBack_ok { x with ret := e, c := 0 }
    exact ⟨⟨h1.op, h1.t, h1.ret, h1.read, h1.i⟩, h2⟩
  · obtain ⟨h1, h2⟩ := giveBack_ok { x with ret := e, c := 0, b := 0, hold := x.hold ++ [wr (x.b - 1)] }
    exact ⟨⟨h1.op, h1.t, h1.ret, h1.read, h1.i⟩, h2⟩
theorem takeBegin_ok (x : Wk) : Keep x (takeBeginW x) ∧ (takeBeginW x).give = x.give ∧ ((takeBeginW x).line = 10 ∨ (takeBeginW x).line = 35) := by
  unfold takeBeginW; split
  · exact ⟨⟨rfl, rfl, rfl, rfl, rfl⟩, rfl, .inl rfl⟩
  · have hn : (takeW x).1.op = x.op ∧ (takeW x).1.t = x.t ∧ (takeW x).1.ret = x.ret ∧ (takeW x).1.read = x.read ∧ (takeW x).1.i = x.i ∧ (takeW x).1.give = x.give := by
      unfold takeW; split <;> exact ⟨rfl, rfl, rfl, rfl, rfl, rfl⟩
    generalize takeW x = q at hn ⊢
    exact ⟨⟨hn.1, hn.2.1, hn.2.2.1, hn.2.2.2.1, hn.2.2.2.2.1⟩, hn.2.2.2.2.2, .inr rfl⟩
theorem body_ok (x : Wk) : Keep x (bodyW x) ∧ (bodyW x).give = x.give ∧ ((x.op.k = 4 ∧ (bodyW x).line = 42) ∨ (x.op.k = 5 ∧ (bodyW x).line = 46) ∨ (x.op.k = 6 ∧ (bodyW x).line = 60) ∨ (x.op.k ≠ 4 ∧ x.op.k ≠ 5 ∧ x.op.k ≠ 6 ∧ ((bodyW x).line = 10 ∨ (bodyW x).line = 35))) := by
  unfold bodyW
  by_cases h4 : x.op.k = 4
  · rw [if_pos h4]; exact ⟨⟨rfl, rfl, rfl, rfl, rfl⟩, rfl, .inl ⟨h4, rfl⟩⟩
  rw [if_neg h4]
  by_cases h5 : x.op.k = 5
  · rw [if_pos h5]; exact ⟨⟨rfl, rfl, rfl, rfl, rfl⟩, rfl, .inr (.inl ⟨h5, rfl⟩)⟩
  rw [if_neg h5]
  by_cases h6 : x.op.k = 6
  · rw [if_pos h6]; exact ⟨⟨rfl, rfl, rfl, rfl, rfl⟩, rfl, .inr (.inr (.inl ⟨h6, rfl⟩))⟩
  rw [if_neg h6]
  obtain ⟨h1, h2, h3⟩ := takeBegin_ok x
  exact ⟨h1, h2, .inr (.inr (.inr ⟨h4, h5, h6, h3⟩))⟩
theorem room_ok (m : Md) (x : Wk) (l : Int) : (Same { x with line := l } (roomL m x l)) ∨ (Keep { x with ret := 6 } (roomL m x l) ∧ cls (roomL m x l)) := by
  unfold roomL; split
  · left
    have h := same_now x
    exact ⟨h.op, h.t, h.ret, h.read, h.i, h.give, rfl, h.v⟩
  · right
    obtain ⟨h1, h2⟩ := fail_ok (nowX x) 6
    have h := same_now x
    exact ⟨⟨h1.op.trans h.op, h1.t.trans h.t, h1.ret, h1.read.trans h.read, h1.i.trans h.i⟩, h2⟩
end Go.Proofs.YtaeepogbgflbpaaGreat
end

/- What holds of the memory and of each worker between two steps. No condition. -/
section
set_option linter.unusedVariables false
set_option linter.unusedSimpArgs false
set_option maxRecDepth 100000
namespace Go.Proofs.YtaeepogbgflbpaaGreat
open Go Go.Ax

/-- The stack of entries, from a link on. -/
def chain (m : Md) : List Int → Int → Prop
  | [], p => p = 0
  | e :: S, p => p = e + 1 ∧ chain m S (Lw m e)
/-- What holds of the memory: 'S' is the stack of entries, 'n' bounds the head's version. -/
structure Glob (m : Md) (S : List Int) (n : Int) : Prop where
  w : Whl m
  hd : 0 ≤ hdV (Hw m) ∧ hdV (Hw m) ≤ n
  ch : chain m S (lowW (Hw m))
  nd : S.Nodup
  inS : ∀ e ∈ S, (0 ≤ e ∧ e < m.c.e) ∧ entS (Ew m e) = 0
  gen : ∀ e, 0 ≤ e → e < m.c.e → 1 ≤ entG (Ew m e) ∧ entG (Ew m e) ≤ m.c.l
/-- A live ticket has been issued. -/
def LiveT (m : Md) (T : Int → Prop) : Prop := ∀ t, goodB m.c t = true → entS (Ew m (tkE t)) = 1 → entG (Ew m (tkE t)) = tkG t → T t
/-- A ticket that was freed. -/
def Dead (m : Md) (t : Int) : Prop := tkG t < entG (Ew m (tkE t)) ∨ (tkG t = entG (Ew m (tkE t)) ∧ entS (Ew m (tkE t)) = 2)
/-- A ticket that was issued. -/
def Old (m : Md) (t : Int) : Prop := tkG t < entG (Ew m (tkE t)) ∨ (tkG t = entG (Ew m (tkE t)) ∧ entS (Ew m (tkE t)) ≠ 0)
/-- An entry, counted from one, that a worker holds. -/
def Own (m : Md) (S : List Int) (i : Int) : Prop := (1 ≤ i ∧ i ≤ m.c.e) ∧ i - 1 ∉ S ∧ entS (Ew m (i - 1)) = 0
def ownL (a : Wk) : Prop := a.line = 40 ∨ a.line = 41 ∨ a.line = 23 ∨ a.line = 24 ∨ a.line = 25
def pop1 (m : Md) (a : Wk) : Prop := a.h = lowW a.v ∧ a.h ≠ 0 ∧ hdV a.v ≤ hdV (Hw m)
def takeL (a : Wk) : Prop := a.line = 10 ∨ a.line = 11 ∨ a.line = 12 ∨ a.line = 30 ∨ a.line = 31 ∨ a.line = 32 ∨ a.line = 33 ∨ a.line = 34 ∨ a.line = 35 ∨ a.line = 38 ∨ a.line = 50
/-- Operations on no ticket. -/
def othF (a : Wk) : Prop := (a.op.k = 1 ∧ a.give = false ∧ (a.line = 1 ∨ a.line = 2 ∨ a.line = 3)) ∨ (a.op.k = 7 ∧ a.give = false ∧ a.line = 62) ∨
  (a.op.k = 8 ∧ a.give = false ∧ (a.line = 70 ∨ a.line = 71 ∨ a.line = 72 ∨ a.line = 73)) ∨ (a.op.k = 9 ∧ a.give = false ∧ (a.line = 36 ∨ a.line = 37)) ∨ cls a
/-- What holds of a worker: 'T' are the tickets told. -/
inductive WI (m : Md) (T : Int → Prop) (S : List Int) (a : Wk) : Prop
  | oth (k : a.op.k ≠ 3 ∧ a.op.k ≠ 4 ∧ a.op.k ≠ 5 ∧ a.op.k ≠ 6) (f : othF a)
  | ent (k : a.op.k = 3 ∨ a.op.k = 4 ∨ a.op.k = 5 ∨ a.op.k = 6) (g : a.give = false) (l : a.line = 1 ∨ a.line = 2 ∨ a.line = 3) (r : a.ret = 0) (rd : a.read = []) (t3 : a.op.k = 3 → a.t = 0) (gd : a.op.k ≠ 3 → goodB m.c a.t = true)
  | chk (k : (a.op.k = 4 ∧ a.line = 42) ∨ (a.op.k = 5 ∧ a.line = 46) ∨ (a.op.k = 6 ∧ a.line = 60)) (g : a.give = false) (r : a.ret = 0) (rd : a.read = []) (gd : goodB m.c a.t = true)
  | tak (k : a.op.k = 3 ∨ a.op.k = 5) (g : a.give = false) (l : takeL a) (r : a.ret = 0) (t3 : a.op.k = 3 → a.t = 0) (gd : a.op.k = 5 → goodB m.c a.t = true ∧ T a.t)
  | pop (k : a.op.k = 3) (g : a.give = false) (r : a.ret = 0) (t : a.t = 0)
      (l : a.line = 20 ∨ (a.line = 21 ∧ pop1 m a) ∨ (a.line = 22 ∧ pop1 m a ∧ (a.v = Hw m → a.n = Lw m (a.h - 1))) ∨ (a.line = 40 ∧ Own m S a.i) ∨ (a.line = 41 ∧ Own m S a.i ∧ a.g = entG (Ew m (a.i - 1))))
  | kil (k : a.op.k = 4) (g : a.give = false) (r : a.ret = 0) (rd : a.read = []) (gd : goodB m.c a.t = true) (t : T a.t) (l : a.line = 43) (lv : liveB a.v a = true)
  | pus (k : a.op.k = 4) (g : a.give = false) (r : a.ret = 0) (gd : goodB m.c a.t = true) (t : T a.t) (d : Dead m a.t) (o : Own m S a.i) (l : a.line = 23 ∨ a.line = 24 ∨ (a.line = 25 ∧ Lw m (a.i - 1) = lowW a.v))
  | wri (k : a.op.k = 5) (g : a.give = false) (r : a.ret = 0) (gd : goodB m.c a.t = true) (t : T a.t) (l : a.line = 44 ∨ (a.line = 45 ∧ liveB a.v a = true))
  | red (k : a.op.k = 6) (g : a.give = false) (r : a.ret = 0) (gd : goodB m.c a.t = true) (t : T a.t) (l : a.line = 61)
  | cl3 (k : a.op.k = 3) (c : cls a) (t : (a.t = 0 ∧ a.ret ≠ 0) ∨ (T a.t ∧ a.ret = 0 ∧ goodB m.c a.t = true))
  | cl4 (k : a.op.k = 4 ∨ a.op.k = 5 ∨ a.op.k = 6) (c : cls a) (gd : goodB m.c a.t = true) (t : T a.t ∨ (a.ret = 7 ∧ a.read = [])) (d : a.op.k = 4 → a.ret = 0 → Dead m a.t)

/-- What becomes of a worker's invariant when the memory changes. -/
theorem WI.frame {m m' : Md} {T T' : Int → Prop} {S S' : List Int} {o : Wk} (h : WI m T S o) (hT : ∀ t, T t → T' t) (hc : m'.c = m.c)
    (hp : pop1 m o → pop1 m' o) (h22 : o.line = 22 → pop1 m o → (o.v = Hw m → o.n = Lw m (o.h - 1)) → o.v = Hw m' → o.n = Lw m' (o.h - 1))
    (hown : ownL o → Own m S o.i → Own m' S' o.i) (hg : ownL o → Own m S o.i → entG (Ew m' (o.i - 1)) = entG (Ew m (o.i - 1))) (hl : ownL o → Own m S o.i → Lw m' (o.i - 1) = Lw m (o.i - 1))
    (hd : goodB m.c o.t = true → Dead m o.t → Dead m' o.t) : WI m' T' S' o := by
  cases h with
  | oth k f => exact .oth k f
  | ent k g l r rd t3 gd => exact .ent k g l r rd t3 (by rw [hc]; exact gd)
  | chk k g r rd gd => exact .chk k g r rd (by rw [hc]; exact gd)
  | tak k g l r t3 gd => exact .tak k g l r t3 (fun h5 => by rw [hc]; exact ⟨(gd h5).1, hT _ (gd h5).2⟩)
  | pop k g r t l =>
    refine .pop k g r t ?_
    rcases l with l | ⟨l, p⟩ | ⟨l, p, q⟩ | ⟨l, p⟩ | ⟨l, p, q⟩
    · exact .inl l
    · exact .inr (.inl ⟨l, hp p⟩)
    · exact .inr (.inr (.inl ⟨l, hp p, h22 l p q⟩))
    · exact .inr (.inr (.inr (.inl ⟨l, hown (.inl l) p⟩)))
    · exact .inr (.inr (.inr (.inr ⟨l, hown (.inr (.inl l)) p, by rw [hg (.inr (.inl l)) p]; exact q⟩)))
  | kil k g r rd gd t l lv => exact .kil k g r rd (by rw [hc]; exact gd) (hT _ t) l lv
  | pus k g r gd t d ow l =>
    have ol : ownL o := by unfold ownL; rcases l with l | l | ⟨l, _⟩ <;> omega
    refine .pus k g r (by rw [hc]; exact gd) (hT _ t) (hd gd d) (hown ol ow) ?_
    rcases l with l | l | ⟨l, q⟩
    · exact .inl l
    · exact .inr (.inl l)
    · exact .inr (.inr ⟨l, by rw [hl ol ow]; exact q⟩)
  | wri k g r gd t l => exact .wri k g r (by rw [hc]; exact gd) (hT _ t) l
  | red k g r gd t l => exact .red k g r (by rw [hc]; exact gd) (hT _ t) l
  | cl3 k c t =>
    refine .cl3 k c ?_
    rcases t with t | ⟨t1, t2, t3⟩
    · exact .inl t
    · exact .inr ⟨hT _ t1, t2, by rw [hc]; exact t3⟩
  | cl4 k c gd t d =>
    refine .cl4 k c (by rw [hc]; exact gd) ?_ (fun h4 h0 => hd gd (d h4 h0))
    rcases t with t | t
    · exact .inl (hT _ t)
    · exact .inr t
theorem good_iff {c : Cfg} {t : Int} (h : goodB c t = true) : checkV c = 0 ∧ (0 ≤ tkE t ∧ tkE t < c.e) ∧ 1 ≤ tkG t ∧ tkG t ≤ c.l := by
  unfold goodB at h; rw [decide_eq_true_eq] at h; exact ⟨h.1, ⟨h.2.1, h.2.2.1⟩, h.2.2.2⟩
section
variable {m m' : Md} {T T' : Int → Prop} {S : List Int} {n : Int}
theorem Own.at_ {i : Int} (h : Own m S i) : 0 ≤ i - 1 ∧ i - 1 < m.c.e := by have := h.1; omega
theorem chain_ent (e : Ent m m') {S : List Int} (hS : ∀ e ∈ S, 0 ≤ e ∧ e < m.c.e) {p : Int} (h : chain m S p) : chain m' S p := by
  induction S generalizing p with
  | nil => exact h
  | cons a S ih =>
    refine ⟨h.1, ?_⟩
    have ha := hS a (by simp)
    rw [e.l a ha.1 ha.2]
    exact ih (fun b hb => hS b (by simp [hb])) h.2
theorem Glob.ent (h : Glob m S n) (e : Ent m m') : Glob m' S n where
  w := h.w.ent e
  hd := by rw [e.hd]; exact h.hd
  ch := by rw [e.hd]; exact chain_ent e (fun a ha => (h.inS a ha).1) h.ch
  nd := h.nd
  inS a ha := by
    have := h.inS a ha
    rw [e.c, e.e a this.1.1 this.1.2]; exact this
  gen a h0 h1 := by
    rw [e.c] at h1 ⊢
    rw [e.e a h0 h1]; exact h.gen a h0 h1
theorem Glob.mono {n' : Int} (h : Glob m S n) (hn : n ≤ n') : Glob m S n' := ⟨h.w, ⟨h.hd.1, by have := h.hd.2; omega⟩, h.ch, h.nd, h.inS, h.gen⟩
theorem LiveT.ent (h : LiveT m T) (e : Ent m m') (hT : ∀ t, T t → T' t) : LiveT m' T' := fun t g s w => by
  rw [e.c] at g
  obtain ⟨_, ⟨h1, h2⟩, _⟩ := good_iff g
  rw [e.e _ h1 h2] at s w
  exact hT t (h t g s w)
theorem Dead.ent {t : Int} (e : Ent m m') (g : goodB m.c t = true) : Dead m' t ↔ Dead m t := by
  obtain ⟨_, ⟨h1, h2⟩, _⟩ := good_iff g
  unfold Dead; rw [e.e _ h1 h2]
theorem Old.ent {t : Int} (e : Ent m m') (g : goodB m.c t = true) : Old m' t ↔ Old m t := by
  obtain ⟨_, ⟨h1, h2⟩, _⟩ := good_iff g
  unfold Old; rw [e.e _ h1 h2]
theorem Own.ent {i : Int} (e : Ent m m') (h : Own m S i) : Own m' S i := by
  refine ⟨by rw [e.c]; exact h.1, h.2.1, ?_⟩
  rw [e.e _ h.at_.1 h.at_.2]; exact h.2.2
end
/-- Where the top of the stack is. -/
theorem chain_top {m : Md} {S : List Int} {p : Int} (h : chain m S p) (h0 : p ≠ 0) : ∃ S', S = (p - 1) :: S' ∧ chain m S' (Lw m (p - 1)) := by
  cases S with
  | nil => exact absurd h h0
  | cons a S =>
    obtain ⟨h1, h2⟩ := h
    have : p - 1 = a := by omega
    rw [this]; exact ⟨S, rfl, h2⟩
theorem chain_in {m : Md} {S : List Int} {p : Int} (h : chain m S p) (hS : ∀ e ∈ S, 0 ≤ e ∧ e < m.c.e) : p = 0 ∨ (1 ≤ p ∧ p ≤ m.c.e ∧ p - 1 ∈ S) := by
  cases S with
  | nil => exact .inl h
  | cons a S =>
    obtain ⟨h1, h2⟩ := h
    have := hS a (by simp)
    right
    refine ⟨by omega, by omega, ?_⟩
    have : p - 1 = a := by omega
    rw [this]; simp
/-- Nothing that concerns entries changed. -/
theorem WI.keep {m m' : Md} {T T' : Int → Prop} {S : List Int} {o : Wk} {n : Int} (G : Glob m S n) (h : WI m T S o) (e : Ent m m') (hT : ∀ t, T t → T' t) : WI m' T' S o := by
  refine h.frame hT e.c ?_ ?_ (fun _ ho => ho.ent e) (fun _ ho => ?_) (fun _ ho => ?_) (fun g d => (Dead.ent e g).2 d)
  · intro p; unfold pop1 at *; rw [e.hd]; exact p
  · intro _ p q hv
    rw [e.hd] at hv
    have hh : o.h - 1 ∈ S := by
      have hc := chain_in G.ch (fun a ha => (G.inS a ha).1)
      rw [← hv, ← p.1] at hc
      rcases hc with hc | hc
      · exact absurd hc p.2.1
      · exact hc.2.2
    have := (G.inS _ hh).1
    rw [e.l _ this.1 this.2]
    exact q hv
  · rw [e.e _ ho.at_.1 ho.at_.2]
  · rw [e.l _ ho.at_.1 ho.at_.2]
end Go.Proofs.YtaeepogbgflbpaaGreat
end

/- Steps that change no entry: what becomes of the worker. No condition. -/
section
set_option linter.unusedVariables false
set_option linter.unusedSimpArgs false
set_option maxRecDepth 100000
namespace Go.Proofs.YtaeepogbgflbpaaGreat
open Go Go.Ax

section
variable {m : Md} {w : Int} {x : Wk}
theorem w1 (h : x.line = 1) : workS m w x = s1 m x := by unfold workS; rw [h]; rfl
theorem w2 (h : x.line = 2) : workS m w x = s2 m w x := by unfold workS; rw [h]; rfl
theorem w3 (h : x.line = 3) : workS m w x = s3 m x := by unfold workS; rw [h]; rfl
theorem w90 (h : x.line = 90) : workS m w x = s90 m w x := by unfold workS; rw [h]; rfl
theorem w70 (h : x.line = 70) : workS m w x = s70 m x := by unfold workS; rw [h]; rfl
theorem w71 (h : x.line = 71) : workS m w x = s71 m x := by unfold workS; rw [h]; rfl
theorem w72 (h : x.line = 72) : workS m w x = s72 m x := by unfold workS; rw [h]; rfl
theorem w73 (h : x.line = 73) : workS m w x = s73 m x := by unfold workS; rw [h]; rfl
theorem w36 (h : x.line = 36) : workS m w x = s36 m x := by unfold workS; rw [h]; rfl
theorem w37 (h : x.line = 37) : workS m w x = s37 m x := by unfold workS; rw [h]; rfl
theorem w10 (h : x.line = 10) : workS m w x = s10 m x := by unfold workS; rw [h]; rfl
theorem w11 (h : x.line = 11) : workS m w x = s11 m x := by unfold workS; rw [h]; rfl
theorem w12 (h : x.line = 12) : workS m w x = s12 m x := by unfold workS; rw [h]; rfl
theorem w30 (h : x.line = 30) : workS m w x = s30 m x := by unfold workS; rw [h]; rfl
theorem w31 (h : x.line = 31) : workS m w x = s31 m x := by unfold workS; rw [h]; rfl
theorem w32 (h : x.line = 32) : workS m w x = s32 m x := by unfold workS; rw [h]; rfl
theorem w33 (h : x.line = 33) : workS m w x = s33 m x := by unfold workS; rw [h]; rfl
theorem w34 (h : x.line = 34) : workS m w x = s34 m x := by unfold workS; rw [h]; rfl
theorem w35 (h : x.line = 35) : workS m w x = s35 m x := by unfold workS; rw [h]; rfl
theorem w38 (h : x.line = 38) : workS m w x = s38 m x := by unfold workS; rw [h]; rfl
theorem w50 (h : x.line = 50) : workS m w x = s50 m x := by unfold workS; rw [h]; rfl
theorem w20 (h : x.line = 20) : workS m w x = s20 m x := by unfold workS; rw [h]; rfl
theorem w21 (h : x.line = 21) : workS m w x = s21 m x := by unfold workS; rw [h]; rfl
theorem w22 (h : x.line = 22) : workS m w x = s22 m x := by unfold workS; rw [h]; rfl
theorem w40 (h : x.line = 40) : workS m w x = s40 m x := by unfold workS; rw [h]; rfl
theorem w41 (h : x.line = 41) : workS m w x = s41 m x := by unfold workS; rw [h]; rfl
theorem w23 (h : x.line = 23) : workS m w x = s23 m x := by unfold workS; rw [h]; rfl
theorem w24 (h : x.line = 24) : workS m w x = s24 m x := by unfold workS; rw [h]; rfl
theorem w25 (h : x.line = 25) : workS m w x = s25 m x := by unfold workS; rw [h]; rfl
theorem w42 (h : x.line = 42) : workS m w x = s42 m x := by unfold workS; rw [h]; rfl
theorem w43 (h : x.line = 43) : workS m w x = s43 m x := by unfold workS; rw [h]; rfl
theorem w46 (h : x.line = 46) : workS m w x = s46 m x := by unfold workS; rw [h]; rfl
theorem w44 (h : x.line = 44) : workS m w x = s44 m x := by unfold workS; rw [h]; rfl
theorem w45 (h : x.line = 45) : workS m w x = s45 m x := by unfold workS; rw [h]; rfl
theorem w60 (h : x.line = 60) : workS m w x = s60 m x := by unfold workS; rw [h]; rfl
theorem w61 (h : x.line = 61) : workS m w x = s61 m x := by unfold workS; rw [h]; rfl
theorem w62 (h : x.line = 62) : workS m w x = s62 m x := by unfold workS; rw [h]; rfl
theorem w13 (h : x.line = 13) : workS m w x = s13 m x := by unfold workS; rw [h]; rfl
theorem w14 (h : x.line = 14) : workS m w x = s14 m x := by unfold workS; rw [h]; rfl
theorem w15 (h : x.line = 15) : workS m w x = s15 m x := by unfold workS; rw [h]; rfl
theorem w39 (h : x.line = 39) : workS m w x = s39 m x := by unfold workS; rw [h]; rfl
end
/-- Whether a Free that worked is on its way out. -/
def pendF (a : Wk) : Prop := a.op.k = 4 ∧ a.ret = 0 ∧ (cls a ∨ a.line = 23 ∨ a.line = 24 ∨ a.line = 25)
/-- What a step does. -/
structure StepR (m : Md) (a : Wk) (m' : Md) (b : Wk) (T T' : Int → Prop) (S S' : List Int) (n : Int) : Prop where
  c : m'.c = m.c
  glob : Glob m' S' (n + 1)
  live : LiveT m' T'
  wi : WI m' T' S' b
  frame : ∀ o, WI m T S o → (ownL o → ownL a → o.i ≠ a.i) → WI m' T' S' o
  own : ownL b → (ownL a ∧ b.i = a.i) ∨ ∀ o, WI m T S o → ownL o → o.i ≠ b.i
  old : ∀ t, goodB m.c t = true → Old m t → Old m' t
  dead : ∀ t, goodB m.c t = true → Dead m t → Dead m' t
  op : b.op = a.op
  tick : a.op.k = 3 → b.t = a.t ∨ (a.t = 0 ∧ a.line = 41 ∧ goodB m.c b.t = true ∧ Old m' b.t ∧ ¬ Old m b.t)
  tk : a.op.k ≠ 3 → b.t = a.t
  free : pendF b → (pendF a ∧ b.t = a.t) ∨ (goodB m.c b.t = true ∧ ¬ Dead m b.t)
theorem neutral {m m' : Md} {a b : Wk} {T T' : Int → Prop} {S : List Int} {n : Int} (G : Glob m S n) (L : LiveT m T) (e : Ent m m') (hw : WI m T S b) (hT : ∀ t, T t → T' t)
    (hop : b.op = a.op) (ht : b.t = a.t) (ho : ownL b → ownL a ∧ b.i = a.i) (hf : pendF b → pendF a) : StepR m a m' b T T' S S n where
  c := e.c
  glob := (G.ent e).mono (by omega)
  live := L.ent e hT
  wi := hw.keep G e hT
  frame o h _ := h.keep G e hT
  own h := .inl (ho h)
  old t g h := (Old.ent e g).2 h
  dead t g h := (Dead.ent e g).2 h
  op := hop
  tick _ := .inl ht
  tk _ := ht
  free h := .inl ⟨hf h, ht⟩
theorem cls_own {a : Wk} (h : cls a) : ¬ ownL a := by unfold cls at h; unfold ownL; omega
section
variable {m : Md} {w : Int} {a : Wk}
theorem cls_step (W : Whl m) (h : cls a) (h0 : a.line ≠ 0) : Ent m (workS m w a).1 ∧ (cls (workS m w a).2 ∧ (workS m w a).2.op = a.op ∧ (workS m w a).2.t = a.t ∧ (workS m w a).2.ret = a.ret ∧ (workS m w a).2.read = a.read) := by
  have key : ∀ x : Wk, x.op = a.op → x.t = a.t → x.ret = a.ret → x.read = a.read → cls (giveBackW x) ∧ (giveBackW x).op = a.op ∧ (giveBackW x).t = a.t ∧ (giveBackW x).ret = a.ret ∧ (giveBackW x).read = a.read := fun x h1 h2 h3 h4 => by
    obtain ⟨k, c⟩ := giveBack_ok x
    exact ⟨c, k.op.trans h1, k.t.trans h2, k.ret.trans h3, k.read.trans h4⟩
  rcases h with ⟨g, h⟩ | ⟨g, h⟩
  · rcases h with h | h | h | h | h | h | h
    · rw [w13 h]; exact ⟨ent_ld m 1, .inl ⟨g, .inr (.inl rfl)⟩, rfl, rfl, rfl, rfl⟩
    · rw [w14 h]; exact ⟨(only_sto _ _ _).ent W (out_blockLink W _), .inl ⟨g, .inr (.inr (.inl rfl))⟩, rfl, rfl, rfl, rfl⟩
    · rw [w15 h]; refine ⟨(only_cas _ _ _ _).ent W (out_low W (.inr rfl)), ?_⟩
      unfold s15; dsimp only; split
      · exact key _ rfl rfl rfl rfl
      · exact ⟨.inl ⟨g, .inl rfl⟩, rfl, rfl, rfl, rfl⟩
    · rw [w30 h]; refine ⟨(only_add _ _ _).ent W (out_slab W _), ?_⟩
      unfold s30; dsimp only; split
      · exact ⟨.inl ⟨g, .inr (.inr (.inr (.inr (.inl rfl))))⟩, rfl, rfl, rfl, rfl⟩
      · (try rw [if_pos g]); exact key _ rfl rfl rfl rfl
    · rw [w31 h]; exact ⟨ent_ld m 0, .inl ⟨g, .inr (.inr (.inr (.inr (.inr (.inl rfl)))))⟩, rfl, rfl, rfl, rfl⟩
    · rw [w32 h]; refine ⟨(only_sto _ _ _).ent W (out_slab W _), ?_⟩
      unfold s32; dsimp only
      rw [if_pos g]; exact key _ rfl rfl rfl rfl
    · rw [w39 h]; refine ⟨ent_ld m _, ?_⟩
      unfold s39; dsimp only; split
      · exact ⟨.inl ⟨g, .inr (.inr (.inr (.inl rfl)))⟩, rfl, rfl, rfl, rfl⟩
      · split
        · have hs := same_putW m.c { a with line := 0 } (wr (a.k - 1))
          exact key _ hs.op hs.t hs.ret hs.read
        · exact ⟨.inl ⟨g, .inl rfl⟩, rfl, rfl, rfl, rfl⟩
  · rcases h with h | h
    · rw [w90 h]; refine ⟨(only_sto _ _ _).ent W (out_announce W _), ?_⟩
      unfold s90; dsimp only; split
      · exact ⟨.inr ⟨g, .inr rfl⟩, rfl, rfl, rfl, rfl⟩
      · exact ⟨.inr ⟨g, .inr rfl⟩, rfl, rfl, rfl, rfl⟩
    · exact absurd h h0
theorem take_step (W : Whl m) (g : a.give = false) (h : takeL a) (hk : a.op.k = 3 ∨ a.op.k = 5) : Ent m (workS m w a).1 ∧
    ((Keep a (workS m w a).2 ∧ (workS m w a).2.give = false ∧ (takeL (workS m w a).2 ∨ (a.op.k = 5 ∧ (workS m w a).2.line = 44) ∨ (a.op.k = 3 ∧ (workS m w a).2.line = 20))) ∨ (Keep { a with ret := 5 } (workS m w a).2 ∧ cls (workS m w a).2)) := by
  have ng : ¬ a.give = true := by rw [g]; decide
  have tb : ∀ x : Wk, x.op = a.op → x.t = a.t → x.ret = a.ret → x.read = a.read → x.i = a.i → x.give = false → Keep a (takeBeginW x) ∧ (takeBeginW x).give = false ∧ takeL (takeBeginW x) := fun x h1 h2 h3 h4 h5 h6 => by
    obtain ⟨k, c, l⟩ := takeBegin_ok x
    refine ⟨⟨k.op.trans h1, k.t.trans h2, k.ret.trans h3, k.read.trans h4, k.i.trans h5⟩, c.trans h6, ?_⟩
    unfold takeL; omega
  have own : ∀ x : Wk, x.op = a.op → x.t = a.t → x.ret = a.ret → x.read = a.read → x.i = a.i → x.give = false → takeL x → ((Keep a x ∧ x.give = false ∧ (takeL x ∨ (a.op.k = 5 ∧ x.line = 44) ∨ (a.op.k = 3 ∧ x.line = 20))) ∨ (Keep { a with ret := 5 } x ∧ cls x)) := fun x h1 h2 h3 h4 h5 h6 h7 =>
    .inl ⟨⟨h1, h2, h3, h4, h5⟩, h6, .inl h7⟩
  have tb' : ∀ x : Wk, x.op = a.op → x.t = a.t → x.ret = a.ret → x.read = a.read → x.i = a.i → x.give = false → ((Keep a (takeBeginW x) ∧ (takeBeginW x).give = false ∧ (takeL (takeBeginW x) ∨ (a.op.k = 5 ∧ (takeBeginW x).line = 44) ∨ (a.op.k = 3 ∧ (takeBeginW x).line = 20))) ∨ (Keep { a with ret := 5 } (takeBeginW x) ∧ cls (takeBeginW x))) := fun x h1 h2 h3 h4 h5 h6 => by
    obtain ⟨p, q, r⟩ := tb x h1 h2 h3 h4 h5 h6
    exact .inl ⟨p, q, .inl r⟩
  rcases h with h | h | h | h | h | h | h | h | h | h | h
  · rw [w10 h]; refine ⟨ent_ld m 1, ?_⟩
    unfold s10; dsimp only; split <;> exact own _ rfl rfl rfl rfl rfl g (by unfold takeL; simp)
  · rw [w11 h]; exact ⟨ent_ld m _, own _ rfl rfl rfl rfl rfl g (by unfold takeL; simp [s11])⟩
  · rw [w12 h]; refine ⟨(only_cas _ _ _ _).ent W (out_low W (.inr rfl)), ?_⟩
    unfold s12; dsimp only; split <;> exact own _ rfl rfl rfl rfl rfl g (by unfold takeL; simp)
  · rw [w30 h]; refine ⟨(only_add _ _ _).ent W (out_slab W _), ?_⟩
    unfold s30; dsimp only; split
    · exact own _ rfl rfl rfl rfl rfl g (by unfold takeL; simp)
    · (try rw [if_neg ng]); exact tb' _ rfl rfl rfl rfl rfl g
  · rw [w31 h]; exact ⟨ent_ld m 0, own _ rfl rfl rfl rfl rfl g (by unfold takeL; simp [s31])⟩
  · rw [w32 h]; refine ⟨(only_sto _ _ _).ent W (out_slab W _), ?_⟩
    unfold s32; dsimp only
    rw [if_neg ng]; exact tb' _ rfl rfl rfl rfl rfl g
  · rw [w33 h]; refine ⟨ent_ld m _, ?_⟩
    unfold s33; dsimp only; split
    · exact own _ rfl rfl rfl rfl rfl g (by unfold takeL; simp)
    · split
      · exact own _ rfl rfl rfl rfl rfl g (by unfold takeL; simp)
      · exact own _ rfl rfl rfl rfl rfl g (by unfold takeL; simp [h])
  · rw [w34 h]; refine ⟨(only_cas _ _ _ _).ent W (out_slab W _), ?_⟩
    unfold s34; dsimp only; split <;> exact own _ rfl rfl rfl rfl rfl g (by unfold takeL; simp)
  · rw [w35 h]; refine ⟨ent_ld m _, ?_⟩
    unfold s35; dsimp only; split <;> exact own _ rfl rfl rfl rfl rfl g (by unfold takeL; simp)
  · rw [w38 h]; refine ⟨ent_ld m 1, ?_⟩
    unfold s38; dsimp only; split
    · obtain ⟨k, c⟩ := fail_ok { a with line := 0 } 5
      exact .inr ⟨⟨k.op, k.t, k.ret, k.read, k.i⟩, c⟩
    · exact tb' _ rfl rfl rfl rfl rfl g
  · rw [w50 h]; refine ⟨(only_sto _ _ _).ent W (out_word W _ _), ?_⟩
    unfold s50; dsimp only
    refine .inl ⟨⟨rfl, rfl, rfl, rfl, rfl⟩, g, ?_⟩
    split
    · split
      · rename_i h5; exact .inr (.inl ⟨h5, rfl⟩)
      · rename_i h5; exact .inr (.inr ⟨by omega, rfl⟩)
    · left; unfold takeL; simp
theorem oth_step (W : Whl m) (hk : a.op.k ≠ 3 ∧ a.op.k ≠ 4 ∧ a.op.k ≠ 5 ∧ a.op.k ≠ 6) (h : othF a) (h0 : a.line ≠ 0) : Ent m (workS m w a).1 ∧ (workS m w a).2.op = a.op ∧ (workS m w a).2.t = a.t ∧ othF (workS m w a).2 := by
  rcases h with ⟨k, g, h⟩ | ⟨k, g, h⟩ | ⟨k, g, h⟩ | ⟨k, g, h⟩ | h
  · rcases h with h | h | h
    · rw [w1 h]; exact ⟨ent_ld m 0, rfl, rfl, .inl ⟨k, g, .inr (.inl rfl)⟩⟩
    · rw [w2 h]; exact ⟨(only_sto _ _ _).ent W (out_announce W _), rfl, rfl, .inl ⟨k, g, .inr (.inr rfl)⟩⟩
    · rw [w3 h]; refine ⟨ent_ld m 0, ?_⟩
      unfold s3; dsimp only; rw [if_pos k]; split
      · exact ⟨rfl, rfl, .inr (.inr (.inr (.inr (.inr ⟨g, .inr rfl⟩))))⟩
      · exact ⟨rfl, rfl, .inl ⟨k, g, .inr (.inl rfl)⟩⟩
  · rw [w62 h]; refine ⟨ent_ld m _, ?_⟩
    unfold s62; dsimp only; split
    · exact ⟨rfl, rfl, .inr (.inl ⟨k, g, h⟩)⟩
    · exact ⟨rfl, rfl, .inr (.inr (.inr (.inr (.inr ⟨g, .inr rfl⟩))))⟩
  · rcases h with h | h | h | h
    · rw [w70 h]; exact ⟨ent_ld m 0, rfl, rfl, .inr (.inr (.inl ⟨k, g, .inr (.inl rfl)⟩))⟩
    · rw [w71 h]; refine ⟨ent_ld m _, ?_⟩
      unfold s71; dsimp only; split
      · exact ⟨rfl, rfl, .inr (.inr (.inl ⟨k, g, .inr (.inr (.inr rfl))⟩))⟩
      · split
        · exact ⟨rfl, rfl, .inr (.inr (.inl ⟨k, g, .inr (.inr (.inl rfl))⟩))⟩
        · exact ⟨rfl, rfl, .inr (.inr (.inl ⟨k, g, .inr (.inl h)⟩))⟩
    · rw [w72 h]; exact ⟨(only_cas _ _ _ _).ent W (out_low W (.inl rfl)), rfl, rfl, .inr (.inr (.inl ⟨k, g, .inr (.inr (.inr rfl))⟩))⟩
    · rw [w73 h]; refine ⟨ent_ld m 0, ?_⟩
      unfold s73; dsimp only
      have hs := same_ripe a (rd0 m 0)
      obtain ⟨kk, c⟩ := giveBack_ok (ripeW (a, rd0 m 0))
      exact ⟨kk.op.trans hs.op, kk.t.trans hs.t, .inr (.inr (.inr (.inr c)))⟩
  · rcases h with h | h
    · rw [w36 h]; refine ⟨ent_ld m _, ?_⟩
      unfold s36; dsimp only; split
      · exact ⟨rfl, rfl, .inr (.inr (.inr (.inl ⟨k, g, .inr rfl⟩)))⟩
      · exact ⟨rfl, rfl, .inr (.inr (.inr (.inr (.inr ⟨g, .inr rfl⟩))))⟩
    · rw [w37 h]; refine ⟨(only_cas _ _ _ _).ent W (out_slab W _), ?_⟩
      unfold s37; dsimp only; split
      · exact ⟨rfl, rfl, .inr (.inr (.inr (.inr (.inr ⟨g, .inr rfl⟩))))⟩
      · exact ⟨rfl, rfl, .inr (.inr (.inr (.inl ⟨k, g, .inl rfl⟩)))⟩
  · obtain ⟨h1, h2, h3, h4, _⟩ := cls_step (w := w) W h h0
    exact ⟨h1, h3, h4, .inr (.inr (.inr (.inr h2)))⟩
theorem ent_step (W : Whl m) (hk : a.op.k = 3 ∨ a.op.k = 4 ∨ a.op.k = 5 ∨ a.op.k = 6) (g : a.give = false) (h : a.line = 1 ∨ a.line = 2 ∨ a.line = 3) : Ent m (workS m w a).1 ∧ Keep a (workS m w a).2 ∧ (workS m w a).2.give = false ∧
    ((workS m w a).2.line = 1 ∨ (workS m w a).2.line = 2 ∨ (workS m w a).2.line = 3 ∨ (a.op.k = 4 ∧ (workS m w a).2.line = 42) ∨ (a.op.k = 5 ∧ (workS m w a).2.line = 46) ∨ (a.op.k = 6 ∧ (workS m w a).2.line = 60) ∨ (a.op.k = 3 ∧ takeL (workS m w a).2)) := by
  rcases h with h | h | h
  · rw [w1 h]; exact ⟨ent_ld m 0, ⟨rfl, rfl, rfl, rfl, rfl⟩, g, .inr (.inl rfl)⟩
  · rw [w2 h]; exact ⟨(only_sto _ _ _).ent W (out_announce W _), ⟨rfl, rfl, rfl, rfl, rfl⟩, g, .inr (.inr (.inl rfl))⟩
  · rw [w3 h]; refine ⟨ent_ld m 0, ?_⟩
    have hk1 : ¬ a.op.k = 1 := by omega
    unfold s3; dsimp only; rw [if_neg hk1]; split
    · obtain ⟨kk, gg, l⟩ := body_ok { a with line := 0 }
      refine ⟨⟨kk.op, kk.t, kk.ret, kk.read, kk.i⟩, gg.trans g, ?_⟩
      rcases l with l | l | l | ⟨l1, l2, l3, l⟩
      · exact .inr (.inr (.inr (.inl l)))
      · exact .inr (.inr (.inr (.inr (.inl l))))
      · exact .inr (.inr (.inr (.inr (.inr (.inl l)))))
      · refine .inr (.inr (.inr (.inr (.inr (.inr ⟨by dsimp only at l1 l2 l3; omega, ?_⟩)))))
        unfold takeL; omega
    · exact ⟨⟨rfl, rfl, rfl, rfl, rfl⟩, g, .inr (.inl rfl)⟩
end
end Go.Proofs.YtaeepogbgflbpaaGreat
end

/- Steps that change the head, a link or an entry: what holds behind them. No condition. -/
section
set_option linter.unusedVariables false
set_option linter.unusedSimpArgs false
set_option maxRecDepth 100000
namespace Go.Proofs.YtaeepogbgflbpaaGreat
open Go Go.Ax

theorem not_cls {b : Wk} (g : b.give = false) (l : b.line ≠ 90 ∧ b.line ≠ 0) : ¬ cls b := by
  intro h
  rcases h with ⟨h, _⟩ | ⟨_, h⟩
  · rw [g] at h; cases h
  · omega
theorem WI.own {m : Md} {T : Int → Prop} {S : List Int} {a : Wk} (h : WI m T S a) (o : ownL a) : Own m S a.i := by
  unfold ownL at o
  cases h with
  | oth k f =>
    exfalso
    rcases f with ⟨_, _, l⟩ | ⟨_, _, l⟩ | ⟨_, _, l⟩ | ⟨_, _, l⟩ | c
    · omega
    · omega
    · omega
    · omega
    · exact cls_own c o
  | ent k g l => omega
  | chk k => omega
  | tak k g l => unfold takeL at l; omega
  | pop k g r t l =>
    rcases l with l | ⟨l, p⟩ | ⟨l, p⟩ | ⟨l, p⟩ | ⟨l, p, q⟩
    · omega
    · omega
    · omega
    · exact p
    · exact p
  | kil k g r rd gd t l => omega
  | pus k g r gd t d ow l => exact ow
  | wri k g r gd t l => omega
  | red k g r gd t l => omega
  | cl3 k c => exact absurd o (cls_own c)
  | cl4 k c => exact absurd o (cls_own c)
section
variable {m m' : Md} {S : List Int} {n : Int}
theorem Only.hd (o : Only m m' 2) (W : Whl m) {e : Int} (he : 0 ≤ e ∧ e < m.c.e) : Ew m' e = Ew m e ∧ Lw m' e = Lw m e := by
  have h1 := (sizes_of W.v).w
  have h2 := (sizes_of W.v).s
  have h3 := W.ea he
  have h4 := W.la he
  unfold Ew Lw; rw [o.c]
  exact ⟨o.at_ _ (by omega) (by omega), o.at_ _ (by omega) (by omega)⟩
theorem Only.lk {j : Int} (hj : 0 ≤ j ∧ j < m.c.e) (o : Only m m' (entryLinkV m.c j)) (W : Whl m) : Hw m' = Hw m ∧ (∀ e, 0 ≤ e ∧ e < m.c.e → Ew m' e = Ew m e) ∧ (∀ e, 0 ≤ e ∧ e < m.c.e → e ≠ j → Lw m' e = Lw m e) := by
  have h1 := (sizes_of W.v).w
  have h2 := (sizes_of W.v).s
  have h4 := W.la hj
  refine ⟨o.at_ _ (by omega) (by omega), fun e he => ?_, fun e he hne => ?_⟩
  · have := W.ea he
    unfold Ew; rw [o.c]; exact o.at_ _ (by omega) (by omega)
  · have := W.la he
    unfold Lw; rw [o.c]; exact o.at_ _ (by omega) (by omega)
theorem Only.en {j : Int} (hj : 0 ≤ j ∧ j < m.c.e) (o : Only m m' (entryV m.c j)) (W : Whl m) : Hw m' = Hw m ∧ (∀ e, 0 ≤ e ∧ e < m.c.e → Lw m' e = Lw m e) ∧ (∀ e, 0 ≤ e ∧ e < m.c.e → e ≠ j → Ew m' e = Ew m e) := by
  have h1 := (sizes_of W.v).w
  have h2 := (sizes_of W.v).s
  have h4 := W.ea hj
  refine ⟨o.at_ _ (by omega) (by omega), fun e he => ?_, fun e he hne => ?_⟩
  · have := W.la he
    unfold Lw; rw [o.c]; exact o.at_ _ (by omega) (by omega)
  · have := W.ea he
    unfold Ew; rw [o.c]; exact o.at_ _ (by omega) (by omega)
theorem chain_lw {S : List Int} (hS : ∀ e ∈ S, Lw m' e = Lw m e) {p : Int} (h : chain m S p) : chain m' S p := by
  induction S generalizing p with
  | nil => exact h
  | cons a S ih =>
    refine ⟨h.1, ?_⟩
    rw [hS a (by simp)]
    exact ih (fun b hb => hS b (by simp [hb])) h.2
/-- The head that a step lays. -/
theorem upHead_ok {v p : Int} (hv : 0 ≤ hdV v ∧ hdV v < 4294967290) (hp : 0 ≤ p + 1 ∧ p + 1 < 4294967296) : hdV (upHead v p) = hdV v + 1 ∧ lowW (upHead v p) = p + 1 := by
  unfold upHead
  have e : wu (hdV v + 1) = hdV v + 1 := by rw [wu_eq]; omega
  rw [e]
  exact ⟨hdV_headW (by omega), lowW_headW hp⟩
end
section
variable {m : Md} {a : Wk} {T T' : Int → Prop} {S : List Int} {n w : Int}
/-- An entry leaves the stack. -/
theorem step_pop (G : Glob m S n) (L : LiveT m T) (hn : n < 4294967290) (hT : ∀ t, T t → T' t) (k : a.op.k = 3) (g : a.give = false) (r : a.ret = 0) (t : a.t = 0) (l : a.line = 22) (p : pop1 m a) (q : a.v = Hw m → a.n = Lw m (a.h - 1))
    (hc : casOk m 2 a.v = true) : ∃ S', StepR m a (s22 m a).1 (s22 m a).2 T T' S S' n := by
  obtain ⟨hv, hset⟩ := cas_yes (v := upHead a.v (wr (wr (lowW a.n) - 1))) hc
  have hv : a.v = Hw m := hv.symm
  have O : Only m (s22 m a).1 2 := only_cas _ _ _ _
  have hb : (s22 m a).2 = { a with i := wr a.h, line := 40 } := by unfold s22; dsimp only; rw [if_pos hc]
  have hH : Hw (s22 m a).1 = upHead a.v (wr (wr (lowW a.n) - 1)) := hset
  rw [hb]
  generalize (s22 m a).1 = m' at O hH ⊢
  clear hset hb
  have W := G.w
  have hS := fun e he => (G.inS e he).1
  have hch := G.ch
  rw [← hv, ← p.1] at hch
  obtain ⟨S', rfl, hch'⟩ := chain_top hch p.2.1
  have htop := hS (a.h - 1) (by simp)
  have hnn := q hv
  have hp' := chain_in hch' (fun e he => hS e (by simp [he]))
  have he32 := (sizes_of W.v).e
  rw [← hnn] at hch' hp'
  have hn0 : 0 ≤ a.n ∧ a.n ≤ 32 := by omega
  have hlow : lowW a.n = a.n := by rw [lowW_eq]; omega
  have hwr : wr (wr (lowW a.n) - 1) = a.n - 1 := by rw [hlow, wr_in (n := a.n) (by omega), wr_in (by omega)]
  rw [hwr] at hH
  have hup := upHead_ok (v := a.v) (p := a.n - 1) (by rw [hv]; have := G.hd; omega) (by omega)
  rw [← hH] at hup
  have hhd := G.hd
  rw [← hv] at hhd
  have hlow2 : lowW (Hw m') = a.n := by rw [hup.2]; omega
  have ew := fun e (he : 0 ≤ e ∧ e < m.c.e) => (O.hd W he).1
  have lw := fun e (he : 0 ≤ e ∧ e < m.c.e) => (O.hd W he).2
  have hi : wr a.h = a.h := wr_in (by omega)
  have hnd := List.nodup_cons.1 G.nd
  have good_e : ∀ t, goodB m.c t = true → Ew m' (tkE t) = Ew m (tkE t) := fun t gt => ew _ (good_iff gt).2.1
  have hfree := (G.inS (a.h - 1) (by simp)).2
  refine ⟨S', ⟨O.c, ⟨W.only O, by omega, ?_, hnd.2, fun e he => ?_, fun e h0 h1 => ?_⟩, fun t gt st gn => ?_, ?_, fun o ho hne => ?_, fun _ => .inr fun o ho oo => ?_, fun t gt h => ?_, fun t gt h => ?_, rfl, fun _ => .inl rfl, fun _ => rfl, fun h => ?_⟩⟩
  · rw [hlow2]; exact chain_lw (fun e he => lw e (hS e (by simp [he]))) hch'
  · have := G.inS e (by simp [he])
    rw [O.c, ew e this.1]; exact this
  · rw [O.c] at h1 ⊢; rw [ew e ⟨h0, h1⟩]; exact G.gen e h0 h1
  · rw [O.c] at gt; rw [good_e t gt] at st gn; exact hT t (L t gt st gn)
  · refine .pop k g r t (.inr (.inr (.inr (.inl ⟨rfl, ?_⟩))))
    show Own m' S' (wr a.h)
    rw [hi]
    refine ⟨by rw [O.c]; omega, hnd.1, ?_⟩
    rw [ew _ htop]; exact hfree
  · refine ho.frame hT O.c (fun po => ⟨po.1, po.2.1, by have := po.2.2; rw [← hv] at this; omega⟩) (fun _ po _ hq => ?_) (fun _ oo => ?_) (fun _ oo => by rw [ew _ oo.at_]) (fun _ oo => by rw [lw _ oo.at_]) (fun gd d => ?_)
    · have := po.2.2; rw [hq, ← hv] at this; omega
    · refine ⟨by rw [O.c]; exact oo.1, fun hm => oo.2.1 (by simp [hm]), by rw [ew _ oo.at_]; exact oo.2.2⟩
    · unfold Dead at *; rw [good_e _ gd]; exact d
  · intro he
    have he : o.i = wr a.h := he
    rw [hi] at he
    have := (ho.own oo).2.1
    rw [he] at this
    exact this (by simp)
  · unfold Old at *; rw [good_e _ gt]; exact h
  · unfold Dead at *; rw [good_e _ gt]; exact h
  · have h4 : a.op.k = 4 := h.1
    omega
/-- A link is laid. -/
theorem step_link (G : Glob m S n) (L : LiveT m T) (hT : ∀ t, T t → T' t) (k : a.op.k = 4) (g : a.give = false) (r : a.ret = 0) (gd : goodB m.c a.t = true) (t : T a.t) (d : Dead m a.t) (ow : Own m S a.i) (l : a.line = 24) :
    StepR m a (s24 m a).1 (s24 m a).2 T T' S S n := by
  have W := G.w
  have hr := ow.at_
  have he32 := (sizes_of W.v).e
  have hi : wr (a.i - 1) = a.i - 1 := wr_in (by omega)
  have O : Only m (s24 m a).1 (entryLinkV m.c (a.i - 1)) := by
    have : Only m (s24 m a).1 (entryLinkV m.c (wr (a.i - 1))) := only_sto _ _ _
    rw [hi] at this; exact this
  have hL : Lw (s24 m a).1 (a.i - 1) = lowW a.v := by
    have : atM (sto m (entryLinkV m.c (wr (a.i - 1))) (lowW a.v)) (entryLinkV m.c (wr (a.i - 1))) = lowW a.v := sto_same (by rw [hi]; exact W.lin hr)
    rw [hi] at this
    unfold Lw; rw [O.c]
    have e2 : (s24 m a).1 = sto m (entryLinkV m.c (wr (a.i - 1))) (lowW a.v) := rfl
    rw [e2, hi]; exact this
  have hb : (s24 m a).2 = { a with line := 25 } := rfl
  rw [hb]
  generalize (s24 m a).1 = m' at O hL ⊢
  obtain ⟨hh, ew, lw⟩ := O.lk hr W
  have hS := fun e he => (G.inS e he).1
  have hlS : ∀ e ∈ S, Lw m' e = Lw m e := fun e he => lw e (hS e he) (fun h => ow.2.1 (by rw [← h]; exact he))
  have good_e : ∀ t, goodB m.c t = true → Ew m' (tkE t) = Ew m (tkE t) := fun t gt => ew _ (good_iff gt).2.1
  refine ⟨O.c, ⟨W.only O, by rw [hh]; have := G.hd; omega, by rw [hh]; exact chain_lw hlS G.ch, G.nd, fun e he => ?_, fun e h0 h1 => ?_⟩, fun t gt st gn => ?_, ?_, fun o ho hne => ?_, fun _ => .inl ⟨by unfold ownL; omega, rfl⟩, fun t gt h => ?_, fun t gt h => ?_, rfl, fun _ => .inl rfl, fun _ => rfl,
    fun h => .inl ⟨⟨k, r, .inr (.inr (.inl l))⟩, rfl⟩⟩
  · have := G.inS e he
    rw [O.c, ew e this.1]; exact this
  · rw [O.c] at h1 ⊢; rw [ew e ⟨h0, h1⟩]; exact G.gen e h0 h1
  · rw [O.c] at gt; rw [good_e t gt] at st gn; exact hT t (L t gt st gn)
  · refine .pus k g r (by rw [O.c]; exact gd) (hT _ t) ?_ ⟨by rw [O.c]; exact ow.1, ow.2.1, by rw [ew _ hr]; exact ow.2.2⟩ (.inr (.inr ⟨rfl, hL⟩))
    show Dead m' a.t
    unfold Dead at *; rw [good_e _ gd]; exact d
  · refine ho.frame hT O.c (fun po => ⟨po.1, po.2.1, by rw [hh]; exact po.2.2⟩) (fun _ po q hq => ?_) (fun _ oo => ⟨by rw [O.c]; exact oo.1, oo.2.1, by rw [ew _ oo.at_]; exact oo.2.2⟩) (fun _ oo => by rw [ew _ oo.at_]) (fun oL oo => lw _ oo.at_ ?_) (fun gd d => ?_)
    · rw [hh] at hq
      have hc := chain_in G.ch hS
      rw [← hq, ← po.1] at hc
      rcases hc with hc | hc
      · exact absurd hc po.2.1
      · rw [hlS _ hc.2.2]; exact q hq
    · have := hne oL (by unfold ownL; omega); omega
    · unfold Dead at *; rw [good_e _ gd]; exact d
  · unfold Old at *; rw [good_e _ gt]; exact h
  · unfold Dead at *; rw [good_e _ gt]; exact h
/-- An entry joins the stack. -/
theorem step_push (G : Glob m S n) (L : LiveT m T) (hn : n < 4294967290) (hT : ∀ t, T t → T' t) (k : a.op.k = 4) (g : a.give = false) (r : a.ret = 0) (gd : goodB m.c a.t = true) (t : T a.t) (d : Dead m a.t) (ow : Own m S a.i) (l : a.line = 25) (q : Lw m (a.i - 1) = lowW a.v)
    (hc : casOk m 2 a.v = true) : ∃ S', StepR m a (s25 m a).1 (s25 m a).2 T T' S S' n := by
  obtain ⟨hv, hset⟩ := cas_yes (v := upHead a.v (wr (a.i - 1))) hc
  have hv : a.v = Hw m := hv.symm
  have O : Only m (s25 m a).1 2 := only_cas _ _ _ _
  have hb : (s25 m a).2 = giveBackW { a with i := 0, line := 0 } := by unfold s25; dsimp only; rw [if_pos hc]
  have hH : Hw (s25 m a).1 = upHead a.v (wr (a.i - 1)) := hset
  obtain ⟨kb, cb⟩ := giveBack_ok { a with i := 0, line := 0 }
  rw [← hb] at kb cb
  generalize (s25 m a).1 = m' at O hH ⊢
  generalize (s25 m a).2 = b at kb cb ⊢
  have kop : b.op = a.op := kb.op
  have kt : b.t = a.t := kb.t
  have kr : b.ret = a.ret := kb.ret
  clear hset hb
  have W := G.w
  have hr := ow.at_
  have he32 := (sizes_of W.v).e
  have hi : wr (a.i - 1) = a.i - 1 := wr_in (by omega)
  rw [hi] at hH
  have hS := fun e he => (G.inS e he).1
  have hhd := G.hd
  rw [← hv] at hhd
  have hup := upHead_ok (v := a.v) (p := a.i - 1) (by omega) (by omega)
  rw [← hH] at hup
  have ew := fun e (he : 0 ≤ e ∧ e < m.c.e) => (O.hd W he).1
  have lw := fun e (he : 0 ≤ e ∧ e < m.c.e) => (O.hd W he).2
  have good_e : ∀ t, goodB m.c t = true → Ew m' (tkE t) = Ew m (tkE t) := fun t gt => ew _ (good_iff gt).2.1
  refine ⟨(a.i - 1) :: S, ⟨O.c, ⟨W.only O, by omega, ⟨hup.2, ?_⟩, List.nodup_cons.2 ⟨ow.2.1, G.nd⟩, fun e he => ?_, fun e h0 h1 => ?_⟩, fun t gt st gn => ?_, ?_, fun o ho hne => ?_, fun h => absurd h (cls_own cb), fun t gt h => ?_, fun t gt h => ?_, kop, fun _ => .inl kt, fun _ => kt,
    fun h => .inl ⟨⟨k, r, .inr (.inr (.inr l))⟩, kt⟩⟩⟩
  · rw [lw _ hr, q, hv]; exact chain_lw (fun e he => lw e (hS e he)) G.ch
  · rcases List.mem_cons.1 he with he | he
    · subst he; rw [O.c, ew _ hr]; exact ⟨hr, ow.2.2⟩
    · have := G.inS e he
      rw [O.c, ew e this.1]; exact this
  · rw [O.c] at h1 ⊢; rw [ew e ⟨h0, h1⟩]; exact G.gen e h0 h1
  · rw [O.c] at gt; rw [good_e t gt] at st gn; exact hT t (L t gt st gn)
  · refine .cl4 (.inl (by rw [kop]; exact k)) cb (by rw [O.c, kt]; exact gd) (.inl (by rw [kt]; exact hT _ t)) (fun _ _ => ?_)
    rw [kt]; unfold Dead at *; rw [good_e _ gd]; exact d
  · refine ho.frame hT O.c (fun po => ⟨po.1, po.2.1, by have := po.2.2; rw [← hv] at this; omega⟩) (fun _ po _ hq => ?_) (fun oL oo => ?_) (fun _ oo => by rw [ew _ oo.at_]) (fun _ oo => by rw [lw _ oo.at_]) (fun gd d => ?_)
    · have := po.2.2; rw [hq, ← hv] at this; omega
    · refine ⟨by rw [O.c]; exact oo.1, fun hm => ?_, by rw [ew _ oo.at_]; exact oo.2.2⟩
      rcases List.mem_cons.1 hm with hm | hm
      · have := hne oL (by unfold ownL; omega); omega
      · exact oo.2.1 hm
    · unfold Dead at *; rw [good_e _ gd]; exact d
  · unfold Old at *; rw [good_e _ gt]; exact h
  · unfold Dead at *; rw [good_e _ gt]; exact h
end
end Go.Proofs.YtaeepogbgflbpaaGreat
end

/- Steps that change an entry's word: what holds behind them. No condition. -/
section
set_option linter.unusedVariables false
set_option linter.unusedSimpArgs false
set_option maxRecDepth 100000
namespace Go.Proofs.YtaeepogbgflbpaaGreat
open Go Go.Ax

section
variable {m : Md} {a : Wk} {T T' : Int → Prop} {S : List Int} {n w : Int}
/-- One entry's word changes; it is not on the stack and nobody else's. -/
theorem entry_glob {m' : Md} {j : Int} (hj : 0 ≤ j ∧ j < m.c.e) (O : Only m m' (entryV m.c j)) (G : Glob m S n) (hS : j ∉ S) (hg : 1 ≤ entG (Ew m' j) ∧ entG (Ew m' j) ≤ m.c.l) : Glob m' S (n + 1) := by
  have W := G.w
  obtain ⟨hh, lw, ew⟩ := O.en hj W
  have hin := fun e he => (G.inS e he).1
  refine ⟨W.only O, by rw [hh]; have := G.hd; omega, by rw [hh]; exact chain_lw (fun e he => lw e (hin e he)) G.ch, G.nd, fun e he => ?_, fun e h0 h1 => ?_⟩
  · have := G.inS e he
    rw [O.c, ew e this.1 (fun h => hS (by rw [← h]; exact he))]; exact this
  · rw [O.c] at h1 ⊢
    by_cases h : e = j
    · rw [h]; exact hg
    · rw [ew e ⟨h0, h1⟩ h]; exact G.gen e h0 h1
theorem entry_frame {m' : Md} {j : Int} {o : Wk} (hj : 0 ≤ j ∧ j < m.c.e) (O : Only m m' (entryV m.c j)) (G : Glob m S n) (ho : WI m T S o) (hT : ∀ t, T t → T' t) (hne : ownL o → o.i - 1 ≠ j) (hd : goodB m.c o.t = true → Dead m o.t → Dead m' o.t) : WI m' T' S o := by
  have W := G.w
  obtain ⟨hh, lw, ew⟩ := O.en hj W
  refine ho.frame hT O.c (fun po => ⟨po.1, po.2.1, by rw [hh]; exact po.2.2⟩) (fun _ po q hq => ?_) (fun oL oo => ⟨by rw [O.c]; exact oo.1, oo.2.1, by rw [ew _ oo.at_ (hne oL)]; exact oo.2.2⟩) (fun oL oo => by rw [ew _ oo.at_ (hne oL)]) (fun _ oo => lw _ oo.at_) hd
  rw [hh] at hq
  have hc := chain_in G.ch (fun e he => (G.inS e he).1)
  rw [← hq, ← po.1] at hc
  rcases hc with hc | hc
  · exact absurd hc po.2.1
  · rw [lw _ (G.inS _ hc.2.2).1]; exact q hq
/-- A ticket is made. -/
theorem step_issue (G : Glob m S n) (L : LiveT m T) (k : a.op.k = 3) (g : a.give = false) (r : a.ret = 0) (t : a.t = 0) (l : a.line = 41) (ow : Own m S a.i) (q : a.g = entG (Ew m (a.i - 1))) :
    StepR m a (s41 m a).1 (s41 m a).2 T (fun u => T u ∨ (a.line = 41 ∧ u = (s41 m a).2.t)) S S n := by
  have W := G.w
  have hr := ow.at_
  have he32 := (sizes_of W.v).e
  have hl := valid_of W.v
  have hi : wr (a.i - 1) = a.i - 1 := wr_in (by omega)
  have hgen := G.gen _ hr.1 hr.2
  rw [← q] at hgen
  have O : Only m (s41 m a).1 (entryV m.c (a.i - 1)) := by
    have : Only m (s41 m a).1 (entryV m.c (wr (a.i - 1))) := only_sto _ _ _
    rw [hi] at this; exact this
  have hE : Ew (s41 m a).1 (a.i - 1) = entryW a.g (wr (a.b - 1)) 1 := by
    have : atM (sto m (entryV m.c (wr (a.i - 1))) (entryW a.g (wr (a.b - 1)) 1)) (entryV m.c (wr (a.i - 1))) = entryW a.g (wr (a.b - 1)) 1 := sto_same (by rw [hi]; exact W.ein hr)
    rw [hi] at this
    unfold Ew; rw [O.c]
    have e2 : (s41 m a).1 = sto m (entryV m.c (wr (a.i - 1))) (entryW a.g (wr (a.b - 1)) 1) := rfl
    rw [e2, hi]; exact this
  have hb : (s41 m a).2 = giveBackW { a with b := 0, i := 0, t := tickW (wr (a.i - 1)) a.g, line := 0 } := rfl
  obtain ⟨kb, cb⟩ := giveBack_ok { a with b := 0, i := 0, t := tickW (wr (a.i - 1)) a.g, line := 0 }
  rw [← hb] at kb cb
  generalize (s41 m a).1 = m' at O hE ⊢
  generalize (s41 m a).2 = b at kb cb ⊢
  have kop : b.op = a.op := kb.op
  have kt : b.t = tickW (a.i - 1) a.g := by have : b.t = tickW (wr (a.i - 1)) a.g := kb.t
                                            rw [hi] at this; exact this
  have kr : b.ret = a.ret := kb.ret
  clear hb kb
  have tE : tkE b.t = a.i - 1 := by rw [kt]; exact tkE_tickW (by omega)
  have tG : tkG b.t = a.g := by rw [kt]; exact tkG_tickW (by omega)
  have eG : entG (Ew m' (a.i - 1)) = a.g := by rw [hE]; exact entG_entryW (by omega)
  have eS : entS (Ew m' (a.i - 1)) = 1 := by rw [hE]; exact entS_entryW (by omega)
  have gb : goodB m.c b.t = true := by unfold goodB; rw [decide_eq_true_eq, tE, tG]; exact ⟨W.v, by omega, by omega, by omega, by omega⟩
  obtain ⟨hh, lw, ew⟩ := O.en hr W
  have dead : ∀ u, goodB m.c u = true → Dead m u → Dead m' u := fun u gu d => by
    unfold Dead at *
    by_cases h : tkE u = a.i - 1
    · rw [h] at d ⊢
      rw [← q] at d
      rw [eG, eS]
      have := ow.2.2
      omega
    · rw [ew _ (good_iff gu).2.1 h]; exact d
  refine ⟨O.c, entry_glob hr O G ow.2.1 (by rw [eG]; omega), fun u gu st gn => ?_, .cl3 (by rw [kop]; exact k) cb (.inr ⟨.inr ⟨l, rfl⟩, kr.trans r, by rw [O.c]; exact gb⟩), fun o ho hne => ?_, fun h => absurd h (cls_own cb), fun u gu h => ?_, dead, kop, fun _ => .inr ⟨t, l, gb, ?_, ?_⟩, fun h3 => absurd k h3, fun h => ?_⟩
  · rw [O.c] at gu
    by_cases h : tkE u = a.i - 1
    · rw [h] at gn
      exact .inr ⟨l, ticket_inj (h.trans tE.symm) (by rw [tG, ← gn, eG])⟩
    · rw [ew _ (good_iff gu).2.1 h] at st gn
      exact .inl (L u gu st gn)
  · exact entry_frame hr O G ho (fun _ => .inl) (fun oL => by have := hne oL (by unfold ownL; omega); omega) (dead _)
  · unfold Old at *
    by_cases h' : tkE u = a.i - 1
    · rw [h'] at h ⊢
      rw [← q] at h
      rw [eG, eS]
      have := ow.2.2
      omega
    · rw [ew _ (good_iff gu).2.1 h']; exact h
  · unfold Old; rw [tE, tG, eG, eS]; omega
  · unfold Old; rw [tE, tG, ← q]; have := ow.2.2; omega
  · have h4 : b.op.k = 4 := h.1
    rw [kop] at h4; omega
/-- A ticket's entry, live. -/
theorem live_iff {v : Int} {a : Wk} (h : liveB v a = true) : entS v = 1 ∧ entG v = tkG a.t := by unfold liveB at h; rw [decide_eq_true_eq] at h; exact h
/-- A ticket is freed. -/
theorem step_kill (G : Glob m S n) (L : LiveT m T) (hT : ∀ t, T t → T' t) (k : a.op.k = 4) (g : a.give = false) (r : a.ret = 0) (gd : goodB m.c a.t = true) (t : T a.t) (l : a.line = 43) (lv : liveB a.v a = true) (hc : casOk m (tkAt m a) a.v = true) :
    StepR m a (s43 m a).1 (s43 m a).2 T T' S S n := by
  have W := G.w
  obtain ⟨hv, hset⟩ := cas_yes (v := killW m a) hc
  obtain ⟨_, hr, tg⟩ := good_iff gd
  obtain ⟨lS, lG⟩ := live_iff lv
  have he32 := (sizes_of W.v).e
  have hl := valid_of W.v
  have hEw : Ew m (tkE a.t) = a.v := hv
  have O : Only m (s43 m a).1 (entryV m.c (tkE a.t)) := only_cas _ _ _ _
  have hE : Ew (s43 m a).1 (tkE a.t) = killW m a := hset
  have hb : (s43 m a).2 = if (putX m { a with i := killI m a, line := 0 } a.c).i = 0 then giveBackW { putX m { a with i := killI m a, line := 0 } a.c with c := 0 } else { putX m { a with i := killI m a, line := 0 } a.c with c := 0, line := 23 } := by
    unfold s43; dsimp only; rw [if_pos hc]
  have hP := same_putX m { a with i := killI m a, line := 0 } a.c
  generalize putX m { a with i := killI m a, line := 0 } a.c = Y at hb hP
  have Yop : Y.op = a.op := hP.op
  have Yt : Y.t = a.t := hP.t
  have Yr : Y.ret = a.ret := hP.ret
  have Yi : Y.i = killI m a := hP.i
  have Yg : Y.give = a.give := hP.give
  clear hP
  have hSS : tkE a.t ∉ S := fun hm => by have := (G.inS _ hm).2; rw [hEw] at this; omega
  generalize (s43 m a).1 = m' at O hE ⊢
  generalize (s43 m a).2 = b at hb ⊢
  obtain ⟨hh, lw, ew⟩ := O.en hr W
  -- the entry behind the step
  have key : (m.c.l ≤ tkG a.t ∧ killI m a = 0 ∧ entG (Ew m' (tkE a.t)) = tkG a.t ∧ entS (Ew m' (tkE a.t)) = 2) ∨ (tkG a.t < m.c.l ∧ killI m a = tkE a.t + 1 ∧ entG (Ew m' (tkE a.t)) = tkG a.t + 1 ∧ entS (Ew m' (tkE a.t)) = 0) := by
    rw [hE]; unfold killW killI
    by_cases h : m.c.l ≤ tkG a.t
    · rw [if_pos h, if_pos h]
      exact .inl ⟨h, rfl, entG_entryW (by omega), entS_entryW (by omega)⟩
    · rw [if_neg h, if_neg h]
      have e1 : wu (tkG a.t + 1) = tkG a.t + 1 := by rw [wu_eq]; omega
      rw [e1]
      exact .inr ⟨by omega, wr_in (by omega), entG_entryW (by omega), entS_entryW (by omega)⟩
  have ndead : ¬ Dead m a.t := by unfold Dead; rw [hEw]; omega
  have dd : Dead m' a.t := by unfold Dead; rcases key with ⟨_, _, h1, h2⟩ | ⟨_, _, h1, h2⟩ <;> rw [h1, h2] <;> omega
  have dead : ∀ u, goodB m.c u = true → Dead m u → Dead m' u := fun u gu d => by
    unfold Dead at *
    by_cases h : tkE u = tkE a.t
    · rw [h, hEw] at d
      rw [h]
      rcases key with ⟨_, _, h1, h2⟩ | ⟨_, _, h1, h2⟩ <;> rw [h1, h2] <;> omega
    · rw [ew _ (good_iff gu).2.1 h]; exact d
  have ofree : ∀ o, WI m T S o → ownL o → o.i - 1 ≠ tkE a.t := fun o ho oL h => by
    have := (ho.own oL).2.2
    rw [h, hEw] at this; omega
  have bop : b.op = a.op := by
    rw [hb]; split
    · exact (giveBack_ok _).1.op.trans Yop
    · exact Yop
  have bt : b.t = a.t := by
    rw [hb]; split
    · exact (giveBack_ok _).1.t.trans Yt
    · exact Yt
  have br : b.ret = a.ret := by
    rw [hb]; split
    · exact (giveBack_ok _).1.ret.trans Yr
    · exact Yr
  refine ⟨O.c, entry_glob hr O G hSS ?_, fun u gu st gn => ?_, ?_, fun o ho hne => entry_frame hr O G ho hT (ofree o ho) (dead _), fun h => .inr fun o ho oL hi => ?_, fun u gu h => ?_, dead, bop, fun _ => .inl bt, fun _ => bt, fun h => .inr ⟨by rw [bt]; exact gd, by rw [bt]; exact ndead⟩⟩
  · rcases key with ⟨_, _, h1, h2⟩ | ⟨_, _, h1, h2⟩ <;> rw [h1] <;> omega
  · rw [O.c] at gu
    by_cases h : tkE u = tkE a.t
    · rw [h] at st
      rcases key with ⟨_, _, h1, h2⟩ | ⟨_, _, h1, h2⟩ <;> rw [h2] at st <;> omega
    · rw [ew _ (good_iff gu).2.1 h] at st gn
      exact hT u (L u gu st gn)
  · rcases key with ⟨h0, h1, h2, h3⟩ | ⟨h0, h1, h2, h3⟩
    · rw [if_pos (by rw [Yi, h1])] at hb
      refine .cl4 (.inl (by rw [bop]; exact k)) ?_ (by rw [bt, O.c]; exact gd) (.inl (by rw [bt]; exact hT _ t)) (fun _ _ => by rw [bt]; exact dd)
      rw [hb]; exact (giveBack_ok _).2
    · rw [if_neg (by rw [Yi, h1]; omega)] at hb
      have bi : b.i = tkE a.t + 1 := by rw [hb]; exact Yi.trans h1
      refine .pus (by rw [bop]; exact k) (by rw [hb]; exact Yg.trans g) (br.trans r) (by rw [bt, O.c]; exact gd) (by rw [bt]; exact hT _ t) (by rw [bt]; exact dd) ?_ (.inl (by rw [hb]))
      have e1 : tkE a.t + 1 - 1 = tkE a.t := by omega
      refine ⟨by rw [O.c, bi]; omega, by rw [bi, e1]; exact hSS, by rw [bi, e1]; exact h3⟩
  · have h1 := ofree o ho oL
    rcases key with ⟨h0, h2, _, _⟩ | ⟨h0, h2, _, _⟩
    · rw [if_pos (by rw [Yi, h2])] at hb
      rw [hb] at h
      exact cls_own (giveBack_ok _).2 h
    · rw [if_neg (by rw [Yi, h2]; omega)] at hb
      have bi : b.i = tkE a.t + 1 := by rw [hb]; exact Yi.trans h2
      omega
  · unfold Old at *
    by_cases h' : tkE u = tkE a.t
    · rw [h', hEw] at h
      rw [h']
      rcases key with ⟨_, _, h1, h2⟩ | ⟨_, _, h1, h2⟩ <;> rw [h1, h2] <;> omega
    · rw [ew _ (good_iff gu).2.1 h']; exact h
/-- A ticket's block is exchanged. -/
theorem step_swap (G : Glob m S n) (L : LiveT m T) (hT : ∀ t, T t → T' t) (k : a.op.k = 5) (g : a.give = false) (r : a.ret = 0) (gd : goodB m.c a.t = true) (t : T a.t) (l : a.line = 45) (lv : liveB a.v a = true) (hc : casOk m (tkAt m a) a.v = true) :
    StepR m a (s45 m a).1 (s45 m a).2 T T' S S n := by
  have W := G.w
  obtain ⟨hv, hset⟩ := cas_yes (v := entryW (tkG a.t) (wr (a.b - 1)) 1) hc
  obtain ⟨_, hr, tg⟩ := good_iff gd
  obtain ⟨lS, lG⟩ := live_iff lv
  have hl := valid_of W.v
  have hEw : Ew m (tkE a.t) = a.v := hv
  have O : Only m (s45 m a).1 (entryV m.c (tkE a.t)) := only_cas _ _ _ _
  have hE : Ew (s45 m a).1 (tkE a.t) = entryW (tkG a.t) (wr (a.b - 1)) 1 := hset
  have hb : (s45 m a).2 = giveBackW { putX m { a with b := 0, line := 0 } a.c with c := 0 } := by
    unfold s45; dsimp only; rw [if_pos hc]
  have hP := same_putX m { a with b := 0, line := 0 } a.c
  generalize putX m { a with b := 0, line := 0 } a.c = Y at hb hP
  obtain ⟨kb, cb⟩ := giveBack_ok { Y with c := 0 }
  rw [← hb] at kb cb
  have bop : (s45 m a).2.op = a.op := kb.op.trans hP.op
  have bt : (s45 m a).2.t = a.t := kb.t.trans hP.t
  have hSS : tkE a.t ∉ S := fun hm => by have := (G.inS _ hm).2; rw [hEw] at this; omega
  generalize (s45 m a).1 = m' at O hE ⊢
  generalize (s45 m a).2 = b at bop bt cb ⊢
  obtain ⟨hh, lw, ew⟩ := O.en hr W
  have eG : entG (Ew m' (tkE a.t)) = tkG a.t := by rw [hE]; exact entG_entryW (by omega)
  have eS : entS (Ew m' (tkE a.t)) = 1 := by rw [hE]; exact entS_entryW (by omega)
  have all : ∀ e, 0 ≤ e ∧ e < m.c.e → entG (Ew m' e) = entG (Ew m e) ∧ entS (Ew m' e) = entS (Ew m e) := fun e he => by
    by_cases h : e = tkE a.t
    · rw [h, eG, eS, hEw]; exact ⟨lG.symm, lS.symm⟩
    · rw [ew e he h]; exact ⟨rfl, rfl⟩
  have dead : ∀ u, goodB m.c u = true → Dead m u → Dead m' u := fun u gu d => by
    have := all _ (good_iff gu).2.1
    unfold Dead at *; rw [this.1, this.2]; exact d
  have ofree : ∀ o, WI m T S o → ownL o → o.i - 1 ≠ tkE a.t := fun o ho oL h => by
    have := (ho.own oL).2.2
    rw [h, hEw] at this; omega
  refine ⟨O.c, entry_glob hr O G hSS (by rw [eG]; omega), fun u gu st gn => ?_, ?_, fun o ho hne => entry_frame hr O G ho hT (ofree o ho) (dead _), fun h => absurd h (cls_own cb), fun u gu h => ?_, dead, bop, fun _ => .inl bt, fun _ => bt, fun h => ?_⟩
  · rw [O.c] at gu
    have := all _ (good_iff gu).2.1
    rw [this.1] at gn; rw [this.2] at st
    exact hT u (L u gu st gn)
  · exact .cl4 (.inr (.inl (by rw [bop]; exact k))) cb (by rw [bt, O.c]; exact gd) (.inl (by rw [bt]; exact hT _ t)) (fun h4 => by rw [bop] at h4; omega)
  · have := all _ (good_iff gu).2.1
    unfold Old at *; rw [this.1, this.2]; exact h
  · have h4 : b.op.k = 4 := h.1
    rw [bop] at h4; omega
end
end Go.Proofs.YtaeepogbgflbpaaGreat
end

/- Every step: what holds behind it. No condition. -/
section
set_option linter.unusedVariables false
set_option linter.unusedSimpArgs false
set_option maxRecDepth 100000
namespace Go.Proofs.YtaeepogbgflbpaaGreat
open Go Go.Ax

section
variable {m : Md} {a : Wk} {T T' : Int → Prop} {S : List Int} {n w : Int}
theorem not_own {b : Wk} (h : b.line ≠ 40 ∧ b.line ≠ 41 ∧ b.line ≠ 23 ∧ b.line ≠ 24 ∧ b.line ≠ 25) : ¬ ownL b := by unfold ownL; omega
theorem not_own_at {b : Wk} (l : Int) (h : b.line = l) (hl : l ≠ 40 ∧ l ≠ 41 ∧ l ≠ 23 ∧ l ≠ 24 ∧ l ≠ 25) : ¬ ownL b := not_own (by rw [h]; exact hl)
/-- The word of a good ticket's entry, as it is read. -/
theorem tk_read (W : Whl m) (gd : goodB m.c a.t = true) : rd0 m (tkAt m a) = Ew m (tkE a.t) := rd0_in (W.ein (good_iff gd).2.1)
theorem tk_live (L : LiveT m T) (W : Whl m) (gd : goodB m.c a.t = true) (h : liveB (rd0 m (tkAt m a)) a = true) : T a.t := by
  rw [tk_read W gd] at h
  obtain ⟨h1, h2⟩ := live_iff h
  exact L _ gd h1 h2
theorem pend_no {b : Wk} (h : b.op.k ≠ 4) : ¬ pendF b := fun p => h p.1
theorem room_neutral (G : Glob m S n) (L : LiveT m T) (hT : ∀ t, T t → T' t) (e : Ent m (ld m (tkAt m a))) (l : Int) (y : Wk) (hl : l ≠ 40 ∧ l ≠ 41 ∧ l ≠ 23 ∧ l ≠ 24 ∧ l ≠ 25 ∧ l ≠ 0 ∧ l ≠ 90) (hy : y.op = a.op ∧ y.t = a.t ∧ y.ret = a.ret ∧ y.read = a.read ∧ y.give = false ∧ y.v = rd0 m (tkAt m a))
    (gd : goodB m.c a.t = true) (t : T a.t) (k : a.op.k = 4 ∨ a.op.k = 5) (ok : ∀ b : Wk, b.op = a.op → b.t = a.t → b.ret = a.ret → b.read = a.read → b.give = false → b.v = rd0 m (tkAt m a) → b.line = l → WI m T S b) : StepR m a (ld m (tkAt m a)) (roomL m y l) T T' S S n := by
  rcases room_ok m y l with s | ⟨kk, c⟩
  · have sl : (roomL m y l).line = l := s.line
    have sg : (roomL m y l).give = false := s.give.trans hy.2.2.2.2.1
    refine neutral G L e (ok _ (s.op.trans hy.1) (s.t.trans hy.2.1) (s.ret.trans hy.2.2.1) (s.read.trans hy.2.2.2.1) sg (s.v.trans hy.2.2.2.2.2) sl) hT (s.op.trans hy.1) (s.t.trans hy.2.1) (fun h => ?_) (fun h => ?_)
    · exact absurd h (not_own (by omega))
    · exfalso
      rcases h.2.2 with h | h
      · exact not_cls sg (by omega) h
      · omega
  · have kop := kk.op.trans hy.1
    have kt := kk.t.trans hy.2.1
    have kr : (roomL m y l).ret = 6 := kk.ret
    refine neutral G L e (.cl4 (by rw [kop]; omega) c (by rw [kt]; exact gd) (.inl (by rw [kt]; exact t)) (fun _ h => by omega)) hT kop kt (fun h => absurd h (cls_own c)) (fun h => ?_)
    have := h.2.1; omega
theorem stale_neutral (G : Glob m S n) (L : LiveT m T) (hT : ∀ t, T t → T' t) {m' : Md} (e : Ent m m') (y : Wk) (hy : y.op = a.op ∧ y.t = a.t ∧ y.read = a.read) (gd : goodB m.c a.t = true) (t : T a.t ∨ a.read = []) (k : a.op.k = 4 ∨ a.op.k = 5 ∨ a.op.k = 6) : StepR m a m' (failW (y, 7)) T T' S S n := by
  obtain ⟨kk, c⟩ := fail_ok y 7
  have kop := kk.op.trans hy.1
  have kt := kk.t.trans hy.2.1
  have kr : (failW (y, 7)).ret = 7 := kk.ret
  have krd : (failW (y, 7)).read = a.read := kk.read.trans hy.2.2
  refine neutral G L e (.cl4 (by rw [kop]; exact k) c (by rw [kt]; exact gd) ?_ (fun _ h => by omega)) hT kop kt (fun h => absurd h (cls_own c)) (fun h => ?_)
  · rw [kt, kr, krd]
    rcases t with t | t
    · exact .inl t
    · exact .inr ⟨rfl, t⟩
  · have := h.2.1; omega
theorem step_all (G : Glob m S n) (L : LiveT m T) (hn : n < 4294967290) (hw : WI m T S a) (h0 : a.line ≠ 0) :
    ∃ S', StepR m a (workS m w a).1 (workS m w a).2 T (fun u => T u ∨ (a.line = 41 ∧ u = (workS m w a).2.t)) S S' n := by
  have W := G.w
  have hT : ∀ t, T t → (T t ∨ (a.line = 41 ∧ t = (workS m w a).2.t)) := fun t => .inl
  have he32 := (sizes_of W.v).e
  cases hw with
  | oth k f =>
    obtain ⟨e, hop, ht, f'⟩ := oth_step (w := w) W k f h0
    refine ⟨S, neutral G L e (.oth (by rw [hop]; exact k) f') hT hop ht (fun h => ?_) (fun h => absurd h.1 (by rw [hop]; omega))⟩
    exfalso
    unfold ownL at h
    rcases f' with ⟨_, _, l⟩ | ⟨_, _, l⟩ | ⟨_, _, l⟩ | ⟨_, _, l⟩ | c
    · omega
    · omega
    · omega
    · omega
    · exact cls_own c h
  | ent k g l r rd t3 gd =>
    obtain ⟨e, kk, g', l'⟩ := ent_step (w := w) W k g l
    have no : ¬ ownL (workS m w a).2 := by unfold ownL; unfold takeL at l'; omega
    have nc : ¬ cls (workS m w a).2 := not_cls g' (by unfold takeL at l'; omega)
    have np : ¬ pendF (workS m w a).2 := fun h => by
      rcases h.2.2 with h | h
      · exact nc h
      · exact no (by unfold ownL; omega)
    have kop := kk.op
    have kt := kk.t
    refine ⟨S, neutral G L e ?_ hT kop kt (fun h => absurd h no) (fun h => absurd h np)⟩
    have t3' : (workS m w a).2.op.k = 3 → (workS m w a).2.t = 0 := fun h => by rw [kt]; rw [kop] at h; exact t3 h
    have gd' : (workS m w a).2.op.k ≠ 3 → goodB m.c (workS m w a).2.t = true := fun h => by rw [kt]; rw [kop] at h; exact gd h
    have r' := kk.ret.trans r
    have rd' := kk.read.trans rd
    rw [← kop] at k l'
    generalize (workS m w a).2 = b at *
    rcases l' with l' | l' | l' | l' | l' | l' | l'
    · exact .ent k g' (.inl l') r' rd' t3' gd'
    · exact .ent k g' (.inr (.inl l')) r' rd' t3' gd'
    · exact .ent k g' (.inr (.inr l')) r' rd' t3' gd'
    · exact .chk (.inl l') g' r' rd' (gd' (by omega))
    · exact .chk (.inr (.inl l')) g' r' rd' (gd' (by omega))
    · exact .chk (.inr (.inr l')) g' r' rd' (gd' (by omega))
    · exact .tak (.inl l'.1) g' l'.2 r' t3' (fun h5 => by omega)
  | tak k g l r t3 gd =>
    obtain ⟨e, h⟩ := take_step (w := w) W g l k
    rcases h with ⟨kk, g', l'⟩ | ⟨kk, c⟩
    · have no : ¬ ownL (workS m w a).2 := by unfold ownL; unfold takeL at l'; omega
      have nc : ¬ cls (workS m w a).2 := not_cls g' (by unfold takeL at l'; omega)
      have kop := kk.op
      have kt := kk.t
      have np : ¬ pendF (workS m w a).2 := pend_no (by rw [kop]; omega)
      refine ⟨S, neutral G L e ?_ hT kop kt (fun h => absurd h no) (fun h => absurd h np)⟩
      have t3' : (workS m w a).2.op.k = 3 → (workS m w a).2.t = 0 := fun h => by rw [kt]; rw [kop] at h; exact t3 h
      have gd' : (workS m w a).2.op.k = 5 → goodB m.c (workS m w a).2.t = true ∧ T (workS m w a).2.t := fun h => by rw [kt]; rw [kop] at h; exact gd h
      have r' := kk.ret.trans r
      rw [← kop] at k l'
      generalize (workS m w a).2 = b at *
      rcases l' with l' | l' | l'
      · exact .tak k g' l' r' t3' gd'
      · exact .wri l'.1 g' r' (gd' l'.1).1 (gd' l'.1).2 (.inl l'.2)
      · exact .pop l'.1 g' r' (t3' l'.1) (.inl l'.2)
    · have kop : (workS m w a).2.op = a.op := kk.op
      have kt : (workS m w a).2.t = a.t := kk.t
      have kr : (workS m w a).2.ret = 5 := kk.ret
      refine ⟨S, neutral G L e ?_ hT kop kt (fun h => absurd h (cls_own c)) (fun h => absurd h (pend_no (by rw [kop]; omega)))⟩
      rcases k with k | k
      · exact .cl3 (by rw [kop]; exact k) c (.inl ⟨by rw [kt]; exact t3 k, by omega⟩)
      · exact .cl4 (.inr (.inl (by rw [kop]; exact k))) c (by rw [kt]; exact (gd k).1) (.inl (by rw [kt]; exact (gd k).2)) (fun h => by rw [kop] at h; omega)
  | pop k g r t l =>
    have np : ∀ b : Wk, b.op = a.op → ¬ pendF b := fun b hb => pend_no (by rw [hb]; omega)
    rcases l with l | ⟨l, p⟩ | ⟨l, p, q⟩ | ⟨l, ow⟩ | ⟨l, ow, q⟩
    · -- line 20
      rw [w20 l] at hT ⊢
      have e : Ent m (s20 m a).1 := ent_ld m 2
      have hr : rd0 m 2 = Hw m := rd0_in W.hin
      refine ⟨S, ?_⟩
      by_cases hz : lowW (rd0 m 2) = 0
      · have hb : (s20 m a).2 = failW ({ a with h := lowW (rd0 m 2), v := rd0 m 2, line := 0 }, 5) := by unfold s20; dsimp only; rw [if_pos hz]
        obtain ⟨kk, c⟩ := fail_ok { a with h := lowW (rd0 m 2), v := rd0 m 2, line := 0 } 5
        rw [← hb] at kk c
        have kop : (s20 m a).2.op = a.op := kk.op
        have kt : (s20 m a).2.t = a.t := kk.t
        have kr : (s20 m a).2.ret = 5 := kk.ret
        exact neutral G L e (.cl3 (by rw [kop]; exact k) c (.inl ⟨by rw [kt]; exact t, by omega⟩)) hT kop kt (fun h => absurd h (cls_own c)) (fun h => absurd h (np _ kop))
      · have hb : (s20 m a).2 = { a with h := lowW (rd0 m 2), v := rd0 m 2, line := 21 } := by unfold s20; dsimp only; rw [if_neg hz]
        rw [hb] at hT ⊢
        refine neutral G L e (.pop k g r t (.inr (.inl ⟨rfl, rfl, hz, ?_⟩))) hT rfl rfl (fun h => absurd h (not_own_at 21 rfl (by decide))) (fun h => absurd h (np _ rfl))
        show hdV (rd0 m 2) ≤ hdV (Hw m)
        rw [hr]; exact Int.le_refl _
    · -- line 21
      rw [w21 l] at hT ⊢
      refine ⟨S, neutral G L (ent_ld m _) (.pop k g r t (.inr (.inr (.inl ⟨rfl, p, fun hv => ?_⟩)))) hT rfl rfl (fun h => absurd h (not_own_at 22 rfl (by decide))) (fun h => absurd h (np _ rfl))⟩
      have hv : a.v = Hw m := hv
      show rd0 m (entryLinkV m.c (wr (wr a.h - 1))) = Lw m (a.h - 1)
      have hc := chain_in G.ch (fun e he => (G.inS e he).1)
      rw [← hv, ← p.1] at hc
      rcases hc with hc | hc
      · exact absurd hc p.2.1
      · have e1 : wr (wr a.h - 1) = a.h - 1 := by rw [wr_in (n := a.h) (by omega), wr_in (by omega)]
        rw [e1]; exact rd0_in (W.lin (by omega))
    · -- line 22
      rw [w22 l] at hT ⊢
      by_cases hc : casOk m 2 a.v = true
      · exact step_pop G L hn hT k g r t l p q hc
      · have hc : casOk m 2 a.v = false := by simpa using hc
        have hn' := cas_no (v := upHead a.v (wr (wr (lowW a.n) - 1))) hc
        have hb : (s22 m a).2 = { a with line := 20 } := by unfold s22; dsimp only; rw [if_neg (by rw [hc]; decide)]
        rw [hb] at hT ⊢
        exact ⟨S, neutral G L (ent_same hn'.1 hn'.2) (.pop k g r t (.inl rfl)) hT rfl rfl (fun h => absurd h (not_own_at 20 rfl (by decide))) (fun h => absurd h (np _ rfl))⟩
    · -- line 40
      rw [w40 l] at hT ⊢
      have hi : wr (a.i - 1) = a.i - 1 := wr_in (by have := ow.1; omega)
      have hr : rd0 m (entryV m.c (wr (a.i - 1))) = Ew m (a.i - 1) := by rw [hi]; exact rd0_in (W.ein ow.at_)
      refine ⟨S, neutral G L (ent_ld m _) (.pop k g r t (.inr (.inr (.inr (.inr ⟨rfl, ow, ?_⟩))))) hT rfl rfl (fun h => ⟨.inl l, rfl⟩) (fun h => absurd h (np _ rfl))⟩
      show entG (rd0 m (entryV m.c (wr (a.i - 1)))) = entG (Ew m (a.i - 1))
      rw [hr]
    · -- line 41
      rw [w41 l]
      exact ⟨S, step_issue G L k g r t l ow q⟩
  | chk k g r rd gd =>
    rcases k with ⟨k, l⟩ | ⟨k, l⟩ | ⟨k, l⟩
    · rw [w42 l] at hT ⊢
      refine ⟨S, ?_⟩
      by_cases hl : liveB (rd0 m (tkAt m a)) a = true
      · have hb : (s42 m a).2 = roomL m (readX m a) 43 := by unfold s42; dsimp only; rw [if_pos hl]
        rw [hb] at hT ⊢
        refine room_neutral G L hT (ent_ld m _) 43 (readX m a) (by decide) ⟨rfl, rfl, rfl, rfl, g, rfl⟩ gd (tk_live L W gd hl) (.inl k) (fun b b1 b2 b3 b4 b5 b6 b7 => ?_)
        refine .kil (by rw [b1]; exact k) b5 (b3.trans r) (b4.trans rd) (by rw [b2]; exact gd) (by rw [b2]; exact tk_live L W gd hl) b7 ?_
        unfold liveB at *; rw [b6, b2]; exact hl
      · have hb : (s42 m a).2 = failW ({ a with line := 0 }, 7) := by unfold s42; dsimp only; rw [if_neg hl]
        rw [hb] at hT ⊢
        exact stale_neutral G L hT (ent_ld m _) _ ⟨rfl, rfl, rfl⟩ gd (.inr rd) (.inl k)
    · rw [w46 l] at hT ⊢
      refine ⟨S, ?_⟩
      by_cases hl : liveB (rd0 m (tkAt m a)) a = true
      · have hb : (s46 m a).2 = takeBeginW (readX m a) := by unfold s46; dsimp only; rw [if_pos hl]
        obtain ⟨kk, gg, ll⟩ := takeBegin_ok (readX m a)
        rw [← hb] at kk gg ll
        have kop : (s46 m a).2.op = a.op := kk.op
        have kt : (s46 m a).2.t = a.t := kk.t
        have kr : (s46 m a).2.ret = a.ret := kk.ret
        refine neutral G L (ent_ld m _) (.tak (.inr (by rw [kop]; exact k)) (gg.trans g) (by unfold takeL; omega) (kr.trans r) (fun h => by rw [kop] at h; omega) (fun _ => by rw [kt]; exact ⟨gd, tk_live L W gd hl⟩)) hT kop kt (fun h => absurd h (not_own (by omega))) (fun h => absurd h (pend_no (by rw [kop]; omega)))
      · have hb : (s46 m a).2 = failW ({ a with line := 0 }, 7) := by unfold s46; dsimp only; rw [if_neg hl]
        rw [hb] at hT ⊢
        exact stale_neutral G L hT (ent_ld m _) _ ⟨rfl, rfl, rfl⟩ gd (.inr rd) (.inr (.inl k))
    · rw [w60 l] at hT ⊢
      refine ⟨S, ?_⟩
      by_cases hl : liveB (rd0 m (tkAt m a)) a = true
      · have hb : (s60 m a).2 = { readX m a with j := 0, line := 61 } := by unfold s60; dsimp only; rw [if_pos hl]
        rw [hb] at hT ⊢
        exact neutral G L (ent_ld m _) (.red k g r gd (tk_live L W gd hl) rfl) hT rfl rfl (fun h => absurd h (not_own (by show (61 : Int) ≠ 40 ∧ (61 : Int) ≠ 41 ∧ (61 : Int) ≠ 23 ∧ (61 : Int) ≠ 24 ∧ (61 : Int) ≠ 25; decide))) (fun h => absurd h (pend_no (by show a.op.k ≠ 4; omega)))
      · have hb : (s60 m a).2 = failW ({ a with line := 0 }, 7) := by unfold s60; dsimp only; rw [if_neg hl]
        rw [hb] at hT ⊢
        exact stale_neutral G L hT (ent_ld m _) _ ⟨rfl, rfl, rfl⟩ gd (.inr rd) (.inr (.inr k))
  | kil k g r rd gd t l lv =>
    rw [w43 l] at hT ⊢
    refine ⟨S, ?_⟩
    by_cases hc : casOk m (tkAt m a) a.v = true
    · exact step_kill G L hT k g r gd t l lv hc
    · have hc : casOk m (tkAt m a) a.v = false := by simpa using hc
      have hn' := cas_no (v := killW m a) hc
      have hb : (s43 m a).2 = { a with line := 42 } := by unfold s43; dsimp only; rw [if_neg (by rw [hc]; decide)]
      rw [hb] at hT ⊢
      refine neutral G L (ent_same hn'.1 hn'.2) (.chk (.inl ⟨k, rfl⟩) g r rd gd) hT rfl rfl (fun h => absurd h (not_own_at 42 rfl (by decide))) (fun h => ?_)
      exfalso
      rcases h.2.2 with h | h | h | h
      · exact not_cls (b := { a with line := 42 }) g ⟨show (42 : Int) ≠ 90 by decide, show (42 : Int) ≠ 0 by decide⟩ h
      · cases h
      · cases h
      · cases h
  | pus k g r gd t d ow l =>
    rcases l with l | l | ⟨l, q⟩
    · rw [w23 l] at hT ⊢
      exact ⟨S, neutral G L (ent_ld m 2) (.pus k g r gd t d ow (.inr (.inl rfl))) hT rfl rfl (fun h => ⟨.inr (.inr (.inl l)), rfl⟩) (fun h => ⟨k, r, .inr (.inl l)⟩)⟩
    · rw [w24 l] at hT ⊢
      exact ⟨S, step_link G L hT k g r gd t d ow l⟩
    · rw [w25 l] at hT ⊢
      by_cases hc : casOk m 2 a.v = true
      · exact step_push G L hn hT k g r gd t d ow l q hc
      · have hc : casOk m 2 a.v = false := by simpa using hc
        have hn' := cas_no (v := upHead a.v (wr (a.i - 1))) hc
        have hb : (s25 m a).2 = { a with line := 23 } := by unfold s25; dsimp only; rw [if_neg (by rw [hc]; decide)]
        rw [hb] at hT ⊢
        exact ⟨S, neutral G L (ent_same hn'.1 hn'.2) (.pus k g r gd t d ow (.inl rfl)) hT rfl rfl (fun h => ⟨.inr (.inr (.inr (.inr l))), rfl⟩) (fun h => ⟨k, r, .inr (.inr (.inr l))⟩)⟩
  | wri k g r gd t l =>
    refine ⟨S, ?_⟩
    rcases l with l | ⟨l, lv⟩
    · rw [w44 l] at hT ⊢
      by_cases hl : liveB (rd0 m (tkAt m a)) a = true
      · have hb : (s44 m a).2 = roomL m (readX m a) 45 := by unfold s44; dsimp only; rw [if_pos hl]
        rw [hb] at hT ⊢
        refine room_neutral G L hT (ent_ld m _) 45 (readX m a) (by decide) ⟨rfl, rfl, rfl, rfl, g, rfl⟩ gd t (.inr k) (fun b b1 b2 b3 b4 b5 b6 b7 => ?_)
        refine .wri (by rw [b1]; exact k) b5 (b3.trans r) (by rw [b2]; exact gd) (by rw [b2]; exact t) (.inr ⟨b7, ?_⟩)
        unfold liveB at *; rw [b6, b2]; exact hl
      · have hb : (s44 m a).2 = failW ({ a with line := 0 }, 7) := by unfold s44; dsimp only; rw [if_neg hl]
        rw [hb] at hT ⊢
        exact stale_neutral G L hT (ent_ld m _) _ ⟨rfl, rfl, rfl⟩ gd (.inl t) (.inr (.inl k))
    · rw [w45 l] at hT ⊢
      by_cases hc : casOk m (tkAt m a) a.v = true
      · exact step_swap G L hT k g r gd t l lv hc
      · have hc : casOk m (tkAt m a) a.v = false := by simpa using hc
        have hn' := cas_no (v := entryW (tkG a.t) (wr (a.b - 1)) 1) hc
        have hb : (s45 m a).2 = { a with line := 44 } := by unfold s45; dsimp only; rw [if_neg (by rw [hc]; decide)]
        rw [hb] at hT ⊢
        exact neutral G L (ent_same hn'.1 hn'.2) (.wri k g r gd t (.inl rfl)) hT rfl rfl (fun h => absurd h (not_own_at 44 rfl (by decide))) (fun h => absurd h (pend_no (by show a.op.k ≠ 4; omega)))
  | red k g r gd t l =>
    rw [w61 l] at hT ⊢
    refine ⟨S, ?_⟩
    by_cases hj : wr (a.j + 1) < m.c.o
    · have hb : (s61 m a).2 = { a with read := a.read ++ [rd0 m (wordV m.c (wr (a.c - 1)) a.j)], j := wr (a.j + 1) } := by unfold s61; dsimp only; rw [if_pos hj]
      rw [hb] at hT ⊢
      refine neutral G L (ent_ld m _) (.red k g r gd t l) hT rfl rfl (fun h => absurd h (not_own ?_)) (fun h => absurd h (pend_no (by show a.op.k ≠ 4; omega)))
      show a.line ≠ 40 ∧ a.line ≠ 41 ∧ a.line ≠ 23 ∧ a.line ≠ 24 ∧ a.line ≠ 25
      omega
    · have hb : (s61 m a).2 = giveBackW { a with read := a.read ++ [rd0 m (wordV m.c (wr (a.c - 1)) a.j)], j := wr (a.j + 1), bor := if a.pin = true then a.c else a.bor, c := 0 } := by unfold s61; dsimp only; rw [if_neg hj]
      obtain ⟨kk, c⟩ := giveBack_ok { a with read := a.read ++ [rd0 m (wordV m.c (wr (a.c - 1)) a.j)], j := wr (a.j + 1), bor := if a.pin = true then a.c else a.bor, c := 0 }
      rw [← hb] at kk c
      have kop : (s61 m a).2.op = a.op := kk.op
      have kt : (s61 m a).2.t = a.t := kk.t
      exact neutral G L (ent_ld m _) (.cl4 (.inr (.inr (by rw [kop]; exact k))) c (by rw [kt]; exact gd) (.inl (by rw [kt]; exact t)) (fun h => by rw [kop] at h; omega)) hT kop kt (fun h => absurd h (cls_own c)) (fun h => absurd h (pend_no (by rw [kop]; omega)))
  | cl3 k c t =>
    obtain ⟨e, c', hop, ht, hr, hrd⟩ := cls_step (w := w) W c h0
    refine ⟨S, neutral G L e (.cl3 (by rw [hop]; exact k) c' (by rw [ht, hr]; exact t)) hT hop ht (fun h => absurd h (cls_own c')) (fun h => absurd h (pend_no (by rw [hop]; omega)))⟩
  | cl4 k c gd t d =>
    obtain ⟨e, c', hop, ht, hr, hrd⟩ := cls_step (w := w) W c h0
    refine ⟨S, neutral G L e (.cl4 (by rw [hop]; exact k) c' (by rw [ht]; exact gd) (by rw [ht, hr, hrd]; exact t) (by rw [hop, hr, ht]; exact d)) hT hop ht (fun h => absurd h (cls_own c')) (fun h => ?_)⟩
    obtain ⟨h1, h2, _⟩ := h
    rw [hop] at h1; rw [hr] at h2
    exact ⟨h1, h2, .inl c⟩
end
end Go.Proofs.YtaeepogbgflbpaaGreat
end

/- What holds of a hall between two picks, and how it is kept. No condition. -/
section
set_option linter.unusedVariables false
set_option linter.unusedSimpArgs false
set_option maxRecDepth 100000
namespace Go.Proofs.YtaeepogbgflbpaaGreat
open Go Go.Ax

/-- The events are as they should be. -/
def EvOk (l : List Ev) : Prop := ∀ i, i < l.length → skipB (l.getD i ev0) = false → badB (getM (toldE (l.take i)) (l.getD i ev0).ans.t false) (l.getD i ev0) = false ∧ (isFr (l.getD i ev0) = true → getM (freedE (l.take i)) (l.getD i ev0).ans.t false = false)
theorem evok_nil : EvOk [] := fun i hi => by simp at hi
theorem evok_snoc {l : List Ev} {e : Ev} (h : EvOk l) (he : skipB e = false → badB (getM (toldE l) e.ans.t false) e = false ∧ (isFr e = true → getM (freedE l) e.ans.t false = false)) : EvOk (l ++ [e]) := by
  intro i hi
  rw [List.length_append, List.length_singleton] at hi
  by_cases h1 : i < l.length
  · have e1 : (l ++ [e]).getD i ev0 = l.getD i ev0 := by rw [List.getD_eq_getElem?_getD, List.getElem?_append_left h1, ← List.getD_eq_getElem?_getD]
    have e2 : (l ++ [e]).take i = l.take i := List.take_append_of_le_length (by omega)
    rw [e1, e2]; exact h i h1
  · obtain rfl : i = l.length := by omega
    have e1 : (l ++ [e]).getD l.length ev0 = e := by simp
    have e2 : (l ++ [e]).take l.length = l := by simp
    rw [e1, e2]; exact he
theorem told_snoc (l : List Ev) (e : Ev) (t : Int) : getM (toldE (l ++ [e])) t false = true ↔ getM (toldE l) t false = true ∨ (isAl e = true ∧ t = e.ans.t) := by
  unfold toldE
  rw [List.foldl_append]
  show getM (tStep (List.foldl tStep [] l) e) t false = true ↔ _
  unfold tStep
  by_cases h : isAl e = true
  · rw [if_pos h, getM_set, Bool.or_eq_true, decide_eq_true_eq]
    constructor
    · rintro (h1 | h1)
      · exact .inr ⟨h, h1⟩
      · exact .inl h1
    · rintro (h1 | h1)
      · exact .inr h1
      · exact .inl h1.2
  · rw [if_neg h]
    constructor
    · exact .inl
    · rintro (h1 | h1)
      · exact h1
      · exact absurd h1.1 h
theorem freed_snoc (l : List Ev) (e : Ev) (t : Int) : getM (freedE (l ++ [e])) t false = true ↔ getM (freedE l) t false = true ∨ (skipB e = false ∧ isFr e = true ∧ t = e.ans.t) := by
  unfold freedE
  rw [List.foldl_append]
  show getM (fStep (List.foldl fStep [] l) e) t false = true ↔ _
  unfold fStep
  by_cases h : skipB e = false ∧ isFr e = true
  · rw [if_pos h, getM_set, Bool.or_eq_true, decide_eq_true_eq]
    constructor
    · rintro (h1 | h1)
      · exact .inr ⟨h.1, h.2, h1⟩
      · exact .inl h1
    · rintro (h1 | h1)
      · exact .inr h1
      · exact .inl h1.2.2
  · rw [if_neg h]
    constructor
    · exact .inl
    · rintro (h1 | h1)
      · exact h1
      · exact absurd ⟨h1.1, h1.2.1⟩ h

/-- A worker's state. -/
def X (h : Hl) (i : Nat) : Wk := (h.l.getD i (K.dflt (tab 59))).x
/-- A worker at work. -/
def act (h : Hl) (i : Nat) : Prop := i < h.l.length ∧ (X h i).line ≠ 0
/-- The tickets told. -/
def TT (h : Hl) (t : Int) : Prop := getM (toldE h.ev) t false = true
/-- The tickets freed. -/
def FF (h : Hl) (t : Int) : Prop := getM (freedE h.ev) t false = true
/-- A ticket made and not yet told to its worker's list. -/
def pnd (x : Wk) : List Int := if x.op.k = 3 ∧ x.t ≠ 0 then [x.t] else []
def iss (h : Hl) (i : Nat) : List Int := getT h.told (i : Int) ++ (if (X h i).line ≠ 0 then pnd (X h i) else [])
structure Inv (x : Cfg) (n : Nat) (h : Hl) : Prop where
  c : h.m.c = x
  len : h.l.length = x.w.toNat
  lim : ∀ i, Lim (20 * n) (X h i)
  evn : h.ev.length ≤ 4 * n
  evr : ∀ e ∈ h.ev, e.ans.read.length ≤ 20 * n
  evok : EvOk h.ev
  toldn : ∀ w, (getT h.told w).length ≤ n
  prog : ∀ w, 0 ≤ (wrAt h w).next ∧ (wrAt h w).prog.length ≤ 1000
  ops : ∀ w, ∀ o ∈ (wrAt h w).prog, rightB o = true
  st : ∃ S, Glob h.m S n ∧ (∀ i, act h i → WI h.m (TT h) S (X h i))
  apart : ∀ i j, act h i → act h j → i ≠ j → ownL (X h i) → ownL (X h j) → (X h i).i ≠ (X h j).i
  live : LiveT h.m (TT h)
  tick : ∀ i, i < h.l.length → ∀ t ∈ iss h i, goodB x t = true ∧ Old h.m t
  tnd : ∀ i, i < h.l.length → (iss h i).Nodup
  tap : ∀ i j, i < h.l.length → j < h.l.length → i ≠ j → ∀ t ∈ iss h i, t ∉ iss h j
  fr : ∀ t, FF h t → goodB x t = true ∧ Dead h.m t
  pf : ∀ i, act h i → pendF (X h i) → ¬ FF h (X h i).t
  pfap : ∀ i j, act h i → act h j → i ≠ j → pendF (X h i) → pendF (X h j) → (X h i).t ≠ (X h j).t
theorem WI.dead {m : Md} {T : Int → Prop} {S : List Int} {o : Wk} (h : WI m T S o) (p : pendF o) : goodB m.c o.t = true ∧ Dead m o.t := by
  obtain ⟨k4, r0, p⟩ := p
  cases h with
  | oth k f => omega
  | ent k g l =>
    exfalso
    rcases p with p | p
    · exact not_cls g (by omega) p
    · omega
  | chk k g r rd gd =>
    exfalso
    rcases p with p | p
    · exact not_cls g (by omega) p
    · omega
  | tak k => omega
  | pop k => omega
  | kil k g r rd gd t l =>
    exfalso
    rcases p with p | p
    · exact not_cls g (by omega) p
    · omega
  | pus k g r gd t d => exact ⟨gd, d⟩
  | wri k => omega
  | red k => omega
  | cl3 k => omega
  | cl4 k c gd t d => exact ⟨gd, d k4 r0⟩
theorem WI.monoT {m : Md} {T T' : Int → Prop} {S : List Int} {o : Wk} (h : WI m T S o) (hT : ∀ t, T t → T' t) : WI m T' S o :=
  h.frame hT rfl id (fun _ _ q => q) (fun _ => id) (fun _ _ => rfl) (fun _ _ => rfl) (fun _ => id)
theorem LiveT.mono {m : Md} {T T' : Int → Prop} (h : LiveT m T) (hT : ∀ t, T t → T' t) : LiveT m T' := fun t g s w => hT t (h t g s w)
theorem getD_set {α : Type} (l : List α) (i j : Nat) (x d : α) (hi : i < l.length) : (l.set i x).getD j d = if i = j then x else l.getD j d := by
  rw [List.getD_eq_getElem?_getD, List.getElem?_set]
  by_cases h : i = j
  · rw [if_pos h, if_pos hi, if_pos h]; rfl
  · rw [if_neg h, if_neg h, ← List.getD_eq_getElem?_getD]
/-- One worker has moved. -/
theorem inv_next {c : Cfg} {n : Nat} {h h' : Hl} {w : Nat} {b : Wk} {nx : Int} {S' : List Int} (I : Inv c n h) (hw : w < h.l.length)
    (hl : h'.l = h.l.set w ⟨b, (wrAt h w).prog, nx⟩) (nx0 : 0 ≤ nx) (lim : Lim (20 * (n + 1)) b) (evn : h'.ev.length ≤ 4 * (n + 1)) (evr : ∀ e ∈ h'.ev, e.ans.read.length ≤ 20 * (n + 1)) (evok : EvOk h'.ev)
    (toldn : ∀ w, (getT h'.told w).length ≤ n + 1) (told : ∀ i : Nat, i < h.l.length → i ≠ w → getT h'.told (i : Int) = getT h.told (i : Int))
    (hc : h'.m.c = h.m.c) (glob : Glob h'.m S' ((n + 1 : Nat) : Int)) (live : LiveT h'.m (TT h')) (wi : b.line ≠ 0 → WI h'.m (TT h') S' b)
    (frame : ∀ i, i ≠ w → act h i → WI h'.m (TT h') S' (X h i)) (own : b.line ≠ 0 → ownL b → ∀ i, i ≠ w → act h i → ownL (X h i) → (X h i).i ≠ b.i)
    (old : ∀ t, goodB c t = true → Old h.m t → Old h'.m t) (dead : ∀ t, goodB c t = true → Dead h.m t → Dead h'.m t)
    (hiss : iss h' w = iss h w ∨ ∃ t, iss h' w = iss h w ++ [t] ∧ goodB c t = true ∧ Old h'.m t ∧ ¬ Old h.m t)
    (fr : ∀ t, FF h' t → FF h t ∨ (goodB c t = true ∧ Dead h'.m t ∧ ∀ i, i ≠ w → act h i → pendF (X h i) → (X h i).t ≠ t))
    (pf : b.line ≠ 0 → pendF b → ¬ FF h' b.t ∧ ∀ i, i ≠ w → act h i → pendF (X h i) → (X h i).t ≠ b.t) : Inv c (n + 1) h' := by
  have hlen : h'.l.length = h.l.length := by rw [hl, List.length_set]
  have at_ : ∀ i, h'.l.getD i (K.dflt (tab 59)) = if w = i then ⟨b, (wrAt h w).prog, nx⟩ else h.l.getD i (K.dflt (tab 59)) := fun i => by rw [hl]; exact getD_set _ _ _ _ _ hw
  have Xw : X h' w = b := by unfold X; rw [at_, if_pos rfl]
  have Xo : ∀ i, i ≠ w → X h' i = X h i := fun i hi => by unfold X; rw [at_, if_neg (fun e => hi e.symm)]
  have ao : ∀ i, i ≠ w → act h' i → act h i := fun i hi ha => by
    unfold act at *; rw [hlen, Xo i hi] at ha; exact ha
  have aw : act h' w → b.line ≠ 0 := fun ha => by have := ha.2; rw [Xw] at this; exact this
  have issO : ∀ i, i < h.l.length → i ≠ w → iss h' i = iss h i := fun i hi hne => by unfold iss; rw [Xo i hne, told i hi hne]
  have issW : ∀ t ∈ iss h' w, t ∈ iss h w ∨ (goodB c t = true ∧ Old h'.m t ∧ ¬ Old h.m t) := fun t ht => by
    rcases hiss with e | ⟨u, e, g⟩
    · rw [e] at ht; exact .inl ht
    · rw [e] at ht
      rcases List.mem_append.1 ht with ht | ht
      · exact .inl ht
      · obtain rfl : t = u := by simpa using ht
        exact .inr g
  refine ⟨hc.trans I.c, hlen.trans I.len, fun i => ?_, evn, evr, evok, toldn, fun v => ?_, fun v o ho => ?_, ⟨S', glob, fun i ha => ?_⟩, fun i j hi hj hne oi oj => ?_, live, fun i hi t ht => ?_, fun i hi => ?_, fun i j hi hj hne t ht hu => ?_, fun t ht => ?_, fun i ha p => ?_, fun i j hi hj hne p q => ?_⟩
  · by_cases h1 : i = w
    · rw [h1, Xw]; exact lim
    · rw [Xo i h1]; exact (I.lim i).mono (by omega)
  · unfold wrAt; rw [at_]; split
    · exact ⟨nx0, (I.prog w).2⟩
    · exact I.prog v
  · unfold wrAt at ho; rw [at_] at ho
    split at ho
    · exact I.ops w o ho
    · exact I.ops v o ho
  · by_cases h1 : i = w
    · rw [h1, Xw]; rw [h1] at ha; exact wi (aw ha)
    · rw [Xo i h1]; exact frame i h1 (ao i h1 ha)
  · by_cases h1 : i = w
    · subst h1
      have hj' : j ≠ i := fun e => hne e.symm
      rw [Xw] at oi ⊢; rw [Xo j hj'] at oj ⊢
      exact fun e => own (aw hi) oi j hj' (ao j hj' hj) oj e.symm
    · by_cases h2 : j = w
      · subst h2
        rw [Xw] at oj ⊢; rw [Xo i h1] at oi ⊢
        exact own (aw hj) oj i h1 (ao i h1 hi) oi
      · rw [Xo i h1] at oi ⊢; rw [Xo j h2] at oj ⊢
        exact I.apart i j (ao i h1 hi) (ao j h2 hj) hne oi oj
  · rw [hlen] at hi
    by_cases h1 : i = w
    · subst h1
      rcases issW t ht with h2 | h2
      · have := I.tick i hi t h2; exact ⟨this.1, old t this.1 this.2⟩
      · exact ⟨h2.1, h2.2.1⟩
    · rw [issO i hi h1] at ht
      have := I.tick i hi t ht; exact ⟨this.1, old t this.1 this.2⟩
  · rw [hlen] at hi
    by_cases h1 : i = w
    · subst h1
      rcases hiss with e | ⟨u, e, g1, g2, g3⟩
      · rw [e]; exact I.tnd i hi
      · rw [e, List.nodup_append]
        refine ⟨I.tnd i hi, by simp, fun x hx y hy => ?_⟩
        obtain rfl : y = u := by simpa using hy
        exact fun e => g3 (e ▸ (I.tick i hi x hx).2)
    · rw [issO i hi h1]; exact I.tnd i hi
  · rw [hlen] at hi hj
    by_cases h1 : i = w
    · subst h1
      have hj' : j ≠ i := fun e => hne e.symm
      rw [issO j hj hj'] at hu
      rcases issW t ht with h2 | h2
      · exact I.tap i j hi hj hne t h2 hu
      · exact h2.2.2 (I.tick j hj t hu).2
    · rw [issO i hi h1] at ht
      by_cases h2 : j = w
      · subst h2
        rcases issW t hu with h3 | h3
        · exact I.tap i j hi hj hne t ht h3
        · exact h3.2.2 (I.tick i hi t ht).2
      · rw [issO j hj h2] at hu
        exact I.tap i j hi hj hne t ht hu
  · rcases fr t ht with h1 | h1
    · have := I.fr t h1; exact ⟨this.1, dead t this.1 this.2⟩
    · exact ⟨h1.1, h1.2.1⟩
  · by_cases h1 : i = w
    · subst h1
      rw [Xw] at p ⊢
      exact (pf (aw ha) p).1
    · rw [Xo i h1] at p ⊢
      intro hF
      rcases fr _ hF with h2 | h2
      · exact I.pf i (ao i h1 ha) p h2
      · exact h2.2.2 i h1 (ao i h1 ha) p rfl
  · by_cases h1 : i = w
    · subst h1
      have hj' : j ≠ i := fun e => hne e.symm
      rw [Xw] at p ⊢; rw [Xo j hj'] at q ⊢
      exact fun e => (pf (aw hi) p).2 j hj' (ao j hj' hj) q e.symm
    · by_cases h2 : j = w
      · subst h2
        rw [Xw] at q ⊢; rw [Xo i h1] at p ⊢
        exact (pf (aw hj) q).2 i h1 (ao i h1 hi) p
      · rw [Xo i h1] at p ⊢; rw [Xo j h2] at q ⊢
        exact I.pfap i j (ao i h1 hi) (ao j h2 hj) hne p q
end Go.Proofs.YtaeepogbgflbpaaGreat
end

/- A step of a worker, and the start of an operation, keep what holds of a hall. No condition. -/
section
set_option linter.unusedVariables false
set_option linter.unusedSimpArgs false
set_option maxRecDepth 100000
namespace Go.Proofs.YtaeepogbgflbpaaGreat
open Go Go.Ax

theorem getT_same (t : Tk) (w : Nat) (l : List Int) (hw : w < 8) : getT (setT8 t (w : Int) l) (w : Int) = l := by
  have : w = 0 ∨ w = 1 ∨ w = 2 ∨ w = 3 ∨ w = 4 ∨ w = 5 ∨ w = 6 ∨ w = 7 := by omega
  rcases this with rfl | rfl | rfl | rfl | rfl | rfl | rfl | rfl <;> rfl
theorem getT_other (t : Tk) (w i : Nat) (l : List Int) (hw : w < 8) (hi : i < 8) (hne : i ≠ w) : getT (setT8 t (w : Int) l) (i : Int) = getT t (i : Int) := by
  have h1 : w = 0 ∨ w = 1 ∨ w = 2 ∨ w = 3 ∨ w = 4 ∨ w = 5 ∨ w = 6 ∨ w = 7 := by omega
  have h2 : i = 0 ∨ i = 1 ∨ i = 2 ∨ i = 3 ∨ i = 4 ∨ i = 5 ∨ i = 6 ∨ i = 7 := by omega
  rcases h1 with rfl | rfl | rfl | rfl | rfl | rfl | rfl | rfl <;> rcases h2 with rfl | rfl | rfl | rfl | rfl | rfl | rfl | rfl <;> first | rfl | exact absurd rfl hne
theorem getT_7 (t : Tk) (v : Int) (h : v ≠ 0 ∧ v ≠ 1 ∧ v ≠ 2 ∧ v ≠ 3 ∧ v ≠ 4 ∧ v ≠ 5 ∧ v ≠ 6) : getT t v = t.t7 := by
  unfold getT
  rw [if_neg h.1, if_neg h.2.1, if_neg h.2.2.1, if_neg h.2.2.2.1, if_neg h.2.2.2.2.1, if_neg h.2.2.2.2.2.1, if_neg h.2.2.2.2.2.2]
theorem getT_or (t : Tk) (w : Nat) (l : List Int) (v : Int) (hw : w < 8) : getT (setT8 t (w : Int) l) v = l ∨ getT (setT8 t (w : Int) l) v = getT t v := by
  have h1 : w = 0 ∨ w = 1 ∨ w = 2 ∨ w = 3 ∨ w = 4 ∨ w = 5 ∨ w = 6 ∨ w = 7 := by omega
  have h2 : v = 0 ∨ v = 1 ∨ v = 2 ∨ v = 3 ∨ v = 4 ∨ v = 5 ∨ v = 6 ∨ (v ≠ 0 ∧ v ≠ 1 ∧ v ≠ 2 ∧ v ≠ 3 ∧ v ≠ 4 ∧ v ≠ 5 ∧ v ≠ 6) := by omega
  rcases h2 with rfl | rfl | rfl | rfl | rfl | rfl | rfl | h2
  case inr.inr.inr.inr.inr.inr.inr => rw [getT_7 _ _ h2, getT_7 _ _ h2]; rcases h1 with rfl | rfl | rfl | rfl | rfl | rfl | rfl | rfl <;> first | exact .inl rfl | exact .inr rfl
  all_goals rcases h1 with rfl | rfl | rfl | rfl | rfl | rfl | rfl | rfl <;> first | exact .inl rfl | exact .inr rfl
/-- One worker has moved: 'E0' are the events before a return. -/
structure Moved (h h' : Hl) (w : Nat) (b : Wk) (nx : Int) (E0 : List Ev) : Prop where
  l : h'.l = h.l.set w ⟨b, (wrAt h w).prog, nx⟩
  e0 : ∀ e ∈ E0, skipB e = true ∧ e.ans.read = []
  n0 : E0.length ≤ 3
  go : b.line ≠ 0 → h'.ev = h.ev ++ E0 ∧ h'.told = h.told
  ov : b.line = 0 → ∃ e4 : Ev, e4.kind = 4 ∧ e4.ans = ⟨b.op, b.t, b.ret, b.read⟩ ∧ h'.ev = h.ev ++ E0 ++ [e4] ∧ h'.told = if b.op.k = 3 ∧ b.ret = 0 then setT8 h.told (w : Int) (getT h.told (w : Int) ++ [b.t]) else h.told
theorem told_app {l r : List Ev} {t : Int} (h : getM (toldE l) t false = true) : getM (toldE (l ++ r)) t false = true := by
  induction r generalizing l with
  | nil => rw [List.append_nil]; exact h
  | cons e r ih =>
    have : l ++ e :: r = (l ++ [e]) ++ r := by simp
    rw [this]; exact ih ((told_snoc l e t).2 (.inl h))
theorem told_al {l r : List Ev} {e : Ev} (he : e ∈ r) (ha : isAl e = true) : getM (toldE (l ++ r)) e.ans.t false = true := by
  induction r generalizing l with
  | nil => cases he
  | cons e' r ih =>
    have : l ++ e' :: r = (l ++ [e']) ++ r := by simp
    rw [this]
    rcases List.mem_cons.1 he with h | h
    · subst h; exact told_app ((told_snoc l e _).2 (.inr ⟨ha, rfl⟩))
    · exact ih h
theorem freed_app {l r : List Ev} {t : Int} (hr : ∀ e ∈ r, skipB e = true) : getM (freedE (l ++ r)) t false = getM (freedE l) t false := by
  induction r generalizing l with
  | nil => rw [List.append_nil]
  | cons e r ih =>
    have : l ++ e :: r = (l ++ [e]) ++ r := by simp
    rw [this, ih (fun e he => hr e (by simp [he])), Bool.eq_iff_iff, freed_snoc]
    have := hr e (by simp)
    rw [this]; simp
theorem evok_app {l r : List Ev} (h : EvOk l) (hr : ∀ e ∈ r, skipB e = true) : EvOk (l ++ r) := by
  induction r generalizing l with
  | nil => rw [List.append_nil]; exact h
  | cons e r ih =>
    have : l ++ e :: r = (l ++ [e]) ++ r := by simp
    rw [this]
    refine ih (evok_snoc h (fun hs => ?_)) (fun e he => hr e (by simp [he]))
    rw [hr e (by simp)] at hs; cases hs
section
variable {h h' : Hl} {w : Nat} {b : Wk} {nx : Int} {E0 : List Ev}
theorem Moved.tt (M : Moved h h' w b nx E0) {t : Int} (ht : getM (toldE (h.ev ++ E0)) t false = true) : TT h' t := by
  unfold TT
  by_cases hl : b.line = 0
  · obtain ⟨e4, _, _, he, _⟩ := M.ov hl
    rw [he]; exact told_app ht
  · rw [(M.go hl).1]; exact ht
theorem Moved.mono (M : Moved h h' w b nx E0) {t : Int} (ht : TT h t) : TT h' t := M.tt (told_app ht)
theorem e4_facts {e4 : Ev} (k : e4.kind = 4) (a : e4.ans = ⟨b.op, b.t, b.ret, b.read⟩) : isAl e4 = false ∧ skipB e4 = decide (b.op.k ≠ 4 ∧ b.op.k ≠ 5 ∧ b.op.k ≠ 6) ∧ isFr e4 = decide (b.op.k = 4 ∧ b.ret = 0) ∧ e4.ans.t = b.t ∧ e4.ans.read = b.read ∧ e4.ans.ret = b.ret ∧ e4.ans.op = b.op := by
  unfold isAl skipB isFr
  rw [a, k]
  refine ⟨by simp, by simp, rfl, rfl, rfl, rfl, rfl⟩
theorem Moved.ff (M : Moved h h' w b nx E0) {t : Int} (ht : FF h' t) : FF h t ∨ (b.line = 0 ∧ b.op.k = 4 ∧ b.ret = 0 ∧ t = b.t) := by
  unfold FF at *
  have hs := fun e he => (M.e0 e he).1
  by_cases hl : b.line = 0
  · obtain ⟨e4, k, a, he, _⟩ := M.ov hl
    obtain ⟨_, _, f3, f4, _⟩ := e4_facts (b := b) k a
    rw [he, freed_snoc, freed_app hs, f3, f4, decide_eq_true_eq] at ht
    rcases ht with ht | ⟨_, ht, e⟩
    · exact .inl ht
    · exact .inr ⟨hl, ht.1, ht.2, e⟩
  · rw [(M.go hl).1, freed_app hs] at ht; exact .inl ht
theorem Moved.evok (M : Moved h h' w b nx E0) (I : EvOk h.ev) (H : b.line = 0 → (b.op.k = 4 ∨ b.op.k = 5 ∨ b.op.k = 6) → (TT h' b.t ∨ ((b.ret = 7 ∨ b.ret = 8) ∧ b.read = [])) ∧ (b.op.k = 4 → b.ret = 0 → ¬ FF h b.t)) : EvOk h'.ev := by
  have hs := fun e he => (M.e0 e he).1
  by_cases hl : b.line = 0
  · obtain ⟨e4, k, a, he, _⟩ := M.ov hl
    obtain ⟨f1, f2, f3, f4, f5, f6, f7⟩ := e4_facts (b := b) k a
    have hTT : TT h' b.t → getM (toldE (h.ev ++ E0)) b.t false = true := fun ht => by
      unfold TT at ht
      rw [he, told_snoc] at ht
      rcases ht with ht | ⟨ht, _⟩
      · exact ht
      · rw [f1] at ht; cases ht
    rw [he]
    refine evok_snoc (evok_app I hs) (fun hsk => ?_)
    rw [f2, decide_eq_false_iff_not] at hsk
    obtain ⟨H1, H2⟩ := H hl (by omega)
    rw [f4]
    refine ⟨?_, fun hf => ?_⟩
    · unfold badB
      rw [f5, f6, f7, decide_eq_false_iff_not]
      rcases H1 with H1 | ⟨H1, H3⟩
      · rw [hTT H1]; simp
      · rw [H3]
        intro hh
        have := hh.2
        simp only [List.length_nil] at this
        omega
    · rw [f3, decide_eq_true_eq] at hf
      rw [freed_app hs]
      have := H2 hf.1 hf.2
      unfold FF at this
      simpa using this
  · rw [(M.go hl).1]; exact evok_app I hs
theorem Moved.evn {n : Nat} (M : Moved h h' w b nx E0) (I : h.ev.length ≤ 4 * n) : h'.ev.length ≤ 4 * (n + 1) := by
  have := M.n0
  by_cases hl : b.line = 0
  · obtain ⟨e4, k, a, he, _⟩ := M.ov hl
    rw [he]; simp only [List.length_append, List.length_singleton]; omega
  · rw [(M.go hl).1]; simp only [List.length_append]; omega
theorem Moved.evr {n : Nat} (M : Moved h h' w b nx E0) (I : ∀ e ∈ h.ev, e.ans.read.length ≤ 20 * n) (L : b.read.length ≤ 20 * (n + 1)) : ∀ e ∈ h'.ev, e.ans.read.length ≤ 20 * (n + 1) := by
  have hs : ∀ e ∈ h.ev ++ E0, e.ans.read.length ≤ 20 * (n + 1) := fun e he => by
    rcases List.mem_append.1 he with he | he
    · have := I e he; omega
    · rw [(M.e0 e he).2]; simp
  by_cases hl : b.line = 0
  · obtain ⟨e4, k, a, he, _⟩ := M.ov hl
    rw [he]; intro e hm
    rcases List.mem_append.1 hm with hm | hm
    · exact hs e hm
    · obtain rfl : e = e4 := by simpa using hm
      rw [(e4_facts (b := b) k a).2.2.2.2.1]; exact L
  · rw [(M.go hl).1]; exact hs
theorem Moved.toldn {n : Nat} (M : Moved h h' w b nx E0) (hw : w < 8) (I : ∀ w, (getT h.told w).length ≤ n) (v : Int) : (getT h'.told v).length ≤ n + 1 := by
  by_cases hl : b.line = 0
  · obtain ⟨e4, k, a, _, ht⟩ := M.ov hl
    rw [ht]; split
    · rcases getT_or h.told w (getT h.told (w : Int) ++ [b.t]) v hw with e | e
      · rw [e, List.length_append, List.length_singleton]; have := I (w : Int); omega
      · rw [e]; have := I v; omega
    · have := I v; omega
  · rw [(M.go hl).2]; have := I v; omega
theorem Moved.told (M : Moved h h' w b nx E0) (hw : w < 8) {i : Nat} (hi : i < 8) (hne : i ≠ w) : getT h'.told (i : Int) = getT h.told (i : Int) := by
  by_cases hl : b.line = 0
  · obtain ⟨e4, k, a, _, ht⟩ := M.ov hl
    rw [ht]; split
    · exact getT_other _ _ _ _ hw hi hne
    · rfl
  · rw [(M.go hl).2]
theorem Moved.x (M : Moved h h' w b nx E0) (hw : w < h.l.length) : X h' w = b := by
  unfold X; rw [M.l, getD_set _ _ _ _ _ hw, if_pos rfl]
/-- What a worker's tickets are behind the move. -/
theorem Moved.iss (M : Moved h h' w b nx E0) (hw : w < h.l.length) (h8 : w < 8) (H : b.line = 0 → b.op.k = 3 → (b.t = 0 ∧ b.ret ≠ 0) ∨ (b.ret = 0 ∧ b.t ≠ 0)) : iss h' w = getT h.told (w : Int) ++ pnd b := by
  unfold Go.Proofs.YtaeepogbgflbpaaGreat.iss
  rw [M.x hw]
  by_cases hl : b.line = 0
  · obtain ⟨e4, k, a, _, ht⟩ := M.ov hl
    rw [if_neg (by omega), List.append_nil, ht]
    unfold pnd
    by_cases h3 : b.op.k = 3
    · rcases H hl h3 with ⟨h4, h5⟩ | ⟨h4, h5⟩
      · rw [if_neg (by omega), if_neg (by omega), List.append_nil]
      · rw [if_pos ⟨h3, h4⟩, if_pos ⟨h3, h5⟩, getT_same _ _ _ h8]
    · rw [if_neg (by omega), if_neg (by omega), List.append_nil]
  · rw [if_pos hl, (M.go hl).2]
end
/-- What a worker that is over answers. -/
theorem WI.fin {m : Md} {T : Int → Prop} {S : List Int} {b : Wk} (h : WI m T S b) (l : b.line = 0) : (b.op.k = 3 → (b.t = 0 ∧ b.ret ≠ 0) ∨ (b.ret = 0 ∧ b.t ≠ 0)) ∧ ((b.op.k = 4 ∨ b.op.k = 5 ∨ b.op.k = 6) → T b.t ∨ (b.ret = 7 ∧ b.read = [])) := by
  cases h with
  | oth k f => exact ⟨fun h => by omega, fun h => by omega⟩
  | ent k g l' => omega
  | chk k => omega
  | tak k g l' => unfold takeL at l'; omega
  | pop k g r t l' => omega
  | kil k g r rd gd t l' => omega
  | pus k g r gd t d o l' => omega
  | wri k g r gd t l' => omega
  | red k g r gd t l' => omega
  | cl3 k c t =>
    refine ⟨fun _ => ?_, fun h => by omega⟩
    rcases t with t | ⟨_, t2, t3⟩
    · exact .inl t
    · refine .inr ⟨t2, fun h0 => ?_⟩
      have := (good_iff t3).2.2.1
      rw [h0, tkG_eq] at this
      omega
  | cl4 k c gd t d => exact ⟨fun h => by omega, fun _ => t⟩
theorem good_ne {c : Cfg} {t : Int} (h : goodB c t = true) : t ≠ 0 := fun h0 => by
  have := (good_iff h).2.2.1
  rw [h0, tkG_eq] at this
  omega
section
variable {c : Cfg} {n : Nat} {h h' : Hl} {w : Nat} {nx : Int} {E0 : List Ev}
theorem inv_step (I : Inv c n h) (ha : act h w) (h8 : h.l.length ≤ 8) (hn : n ≤ 1000000) (nx0 : 0 ≤ nx) (M : Moved h h' w (workS h.m w (X h w)).2 nx E0) (hm : h'.m = (workS h.m w (X h w)).1)
    (al : (X h w).line = 41 → ∃ e ∈ E0, isAl e = true ∧ e.ans.t = (workS h.m w (X h w)).2.t) : Inv c (n + 1) h' := by
  obtain ⟨S, G, wis⟩ := I.st
  have hW := wis w ha
  obtain ⟨S', R⟩ := step_all (w := w) G I.live (by omega) hW ha.2
  have hT : ∀ t, (TT h t ∨ ((X h w).line = 41 ∧ t = (workS h.m w (X h w)).2.t)) → TT h' t := fun t ht => by
    rcases ht with ht | ⟨h1, h2⟩
    · exact M.mono ht
    · obtain ⟨e, he, ha, ht⟩ := al h1
      rw [h2, ← ht]
      exact M.tt (told_al he ha)
  have hlimb : Lim (20 * n + 20) (workS h.m w (X h w)).2 := work_lim (I.lim w) (by have := (sizes_of G.w.v).b; omega)
  rw [← hm] at R
  generalize (workS h.m w (X h w)).2 = b at M R hT al hlimb
  have hw8 : w < 8 := by have := ha.1; omega
  have lm : Lim (20 * (n + 1)) b := by rw [Nat.mul_add]; exact hlimb
  have gc : ∀ {t}, goodB c t = true → goodB h.m.c t = true := fun g => by rw [I.c]; exact g
  have pa : pendF b → ∀ i, i ≠ w → act h i → pendF (X h i) → (X h i).t ≠ b.t := fun p i hi hai q e => by
    rcases R.free p with ⟨p', e'⟩ | ⟨_, p'⟩
    · exact I.pfap i w hai ha hi q p' (e.trans e')
    · exact p' (e ▸ ((wis i hai).dead q).2)
  have nf : pendF b → ¬ FF h b.t := fun p hF => by
    rcases R.free p with ⟨p', e'⟩ | ⟨_, p'⟩
    · rw [e'] at hF; exact I.pf w ha p' hF
    · exact p' (I.fr _ hF).2
  have fin := fun l => R.wi.fin l
  have clz : b.line = 0 → b.op.k = 4 → b.ret = 0 → pendF b := fun l k r => by
    have hw := R.wi
    cases hw with
    | oth k' f => omega
    | ent k g l' => omega
    | chk k => omega
    | tak k g l' => omega
    | pop k => omega
    | kil k g r rd gd t l' => omega
    | pus k g r gd t d o l' => omega
    | wri k => omega
    | red k => omega
    | cl3 k => omega
    | cl4 k' c' gd t d => exact ⟨k, r, .inl c'⟩
  refine inv_next (S' := S') I ha.1 M.l nx0 lm (M.evn I.evn) (M.evr I.evr lm.read) (M.evok I.evok (fun l k => ⟨?_, fun k4 r0 => nf (clz l k4 r0)⟩)) (M.toldn hw8 I.toldn) (fun i hi hne => M.told hw8 (by omega) hne) R.c ?_ (R.live.mono hT) (fun _ => R.wi.monoT hT) (fun i hi hai => (R.frame _ (wis i hai) (fun o1 o2 => I.apart i w hai ha hi o1 o2)).monoT hT)
    (fun _ ob i hi hai oi => ?_) (fun t g o => R.old t (gc g) o) (fun t g o => R.dead t (gc g) o) ?_ (fun t ht => ?_) (fun l p => ⟨fun hF => ?_, pa p⟩)
  · rcases (fin l).2 k with h1 | h1
    · exact .inl (hT _ h1)
    · exact .inr ⟨.inl h1.1, h1.2⟩
  · have := R.glob
    rw [Int.natCast_add]; exact this
  · rcases R.own ob with ⟨h1, h2⟩ | h1
    · rw [h2]; exact I.apart i w hai ha hi oi h1
    · exact h1 _ (wis i hai) oi
  · rw [M.iss ha.1 hw8 (fun l => (fin l).1)]
    have e0 : iss h w = getT h.told (w : Int) ++ pnd (X h w) := by unfold Go.Proofs.YtaeepogbgflbpaaGreat.iss; rw [if_pos ha.2]
    rw [e0]
    by_cases h3 : (X h w).op.k = 3
    · rcases R.tick h3 with h4 | ⟨h4, h5, h6, h7, h8⟩
      · left; unfold pnd; rw [R.op, h4]
      · right
        refine ⟨b.t, ?_, by rw [← I.c]; exact h6, h7, h8⟩
        have p1 : pnd (X h w) = [] := by unfold pnd; rw [if_neg (by omega)]
        have p2 : pnd b = [b.t] := by unfold pnd; rw [if_pos ⟨by rw [R.op]; exact h3, good_ne h6⟩]
        rw [p1, p2, List.append_nil]
    · left
      have p1 : pnd (X h w) = [] := by unfold pnd; rw [if_neg (by omega)]
      have p2 : pnd b = [] := by unfold pnd; rw [if_neg (by rw [R.op]; omega)]
      rw [p1, p2]
  · rcases M.ff ht with h1 | ⟨l, k4, r0, e⟩
    · exact .inl h1
    · right
      subst e
      have p := clz l k4 r0
      have := R.wi.dead p
      exact ⟨by rw [← I.c, ← R.c]; exact this.1, this.2, pa p⟩
  · rcases M.ff hF with h1 | h1
    · exact nf p h1
    · omega
end
end Go.Proofs.YtaeepogbgflbpaaGreat
end

/- The start of an operation keeps what holds of a hall; every pick does. No condition. -/
section
set_option linter.unusedVariables false
set_option linter.unusedSimpArgs false
set_option maxRecDepth 100000
namespace Go.Proofs.YtaeepogbgflbpaaGreat
open Go Go.Ax

/-- A state in which an operation has just begun. -/
structure Bgn (m : Md) (T : Int → Prop) (S : List Int) (b : Wk) : Prop where
  wi : b.line ≠ 0 → WI m T S b
  own : ¬ ownL b
  free : ¬ pendF b
  pnd : pnd b = []
  zero : b.line = 0 → b.op.k ≠ 3 ∧ b.ret ≠ 0 ∧ b.read = [] ∧ ((b.op.k = 4 ∨ b.op.k = 5 ∨ b.op.k = 6) → b.ret = 8)
theorem shared_ok {x : Wk} (h : x.line = 0 ∨ x.line ≠ 0) : Keep x (sharedX x) ∧ (sharedX x).give = x.give ∧ ((sharedX x).line = 1 ∨ (x.op.k = 4 ∧ (sharedX x).line = 42) ∨ (x.op.k = 5 ∧ (sharedX x).line = 46) ∨ (x.op.k = 6 ∧ (sharedX x).line = 60) ∨ (x.op.k ≠ 4 ∧ x.op.k ≠ 5 ∧ x.op.k ≠ 6 ∧ takeL (sharedX x))) := by
  unfold sharedX
  split
  · obtain ⟨kk, gg, l⟩ := body_ok x
    refine ⟨kk, gg, .inr ?_⟩
    rcases l with l | l | l | ⟨l1, l2, l3, l⟩
    · exact .inl l
    · exact .inr (.inl l)
    · exact .inr (.inr (.inl l))
    · exact .inr (.inr (.inr ⟨l1, l2, l3, by unfold takeL; omega⟩))
  · exact ⟨⟨rfl, rfl, rfl, rfl, rfl⟩, rfl, .inl rfl⟩
theorem bgn_line {m : Md} {T : Int → Prop} {S : List Int} {b : Wk} (k : b.op.k ≠ 3 ∧ b.op.k ≠ 4 ∧ b.op.k ≠ 5 ∧ b.op.k ≠ 6) (f : othF b) (l : b.line ≠ 0) : Bgn m T S b where
  wi _ := .oth k f
  own h := by
    unfold ownL at h
    rcases f with ⟨_, _, l⟩ | ⟨_, _, l⟩ | ⟨_, _, l⟩ | ⟨_, _, l⟩ | c
    · omega
    · omega
    · omega
    · omega
    · exact cls_own c h
  free h := by have := h.1; omega
  pnd := by unfold Go.Proofs.YtaeepogbgflbpaaGreat.pnd; rw [if_neg (by omega)]
  zero h := absurd h l
theorem bgn_end {m : Md} {T : Int → Prop} {S : List Int} {x : Wk} (e : Int) (r : x.read = []) (k : x.op.k ≠ 3) (he : e ≠ 0) (h8 : (x.op.k = 4 ∨ x.op.k = 5 ∨ x.op.k = 6) → e = 8) : Bgn m T S (endX x e) where
  wi h := absurd rfl h
  own := not_own_at 0 rfl (by decide)
  free h := he h.2.1
  pnd := by unfold Go.Proofs.YtaeepogbgflbpaaGreat.pnd endX; rw [if_neg (fun h => k h.1)]
  zero _ := ⟨k, he, r, h8⟩
theorem beg_ok {m : Md} {T : Int → Prop} {S : List Int} (x : Wk) (o : OpD) (t : Int) : Bgn m T S (beginW (m.c, x, o, t)) := by
  unfold beginW
  show Bgn m T S (begX m.c (startX x o t) o)
  have yo : (startX x o t).op = o := rfl
  have yt : o.k = 3 → (startX x o t).t = 0 := fun h => by
    have : asks o.k = false := by unfold asks; rw [h]; rfl
    show selZ (!asks o.k) 0 t = 0
    rw [this]; rfl
  have yr : (startX x o t).ret = 0 := rfl
  have yrd : (startX x o t).read = [] := rfl
  have yg : (startX x o t).give = false := rfl
  generalize startX x o t = y at *
  subst yo
  unfold begX
  by_cases h1 : y.op.k = 1
  · rw [if_pos h1]; split
    · exact bgn_end 9 yrd (by omega) (by decide) (fun h => by omega)
    · exact bgn_line (by show y.op.k ≠ 3 ∧ y.op.k ≠ 4 ∧ y.op.k ≠ 5 ∧ y.op.k ≠ 6; omega) (.inl ⟨h1, yg, .inl rfl⟩) (show (1 : Int) ≠ 0 by decide)
  rw [if_neg h1]
  by_cases h2 : y.op.k = 2
  · rw [if_pos h2]; split
    · exact bgn_line (by show y.op.k ≠ 3 ∧ y.op.k ≠ 4 ∧ y.op.k ≠ 5 ∧ y.op.k ≠ 6; omega) (.inr (.inr (.inr (.inr (.inr ⟨yg, .inl rfl⟩))))) (show (90 : Int) ≠ 0 by decide)
    · exact bgn_end 9 yrd (by omega) (by decide) (fun h => by omega)
  rw [if_neg h2]
  obtain ⟨kk, gg, l⟩ := shared_ok (x := y) (by omega)
  have kop := kk.op
  have kt := kk.t
  have kr := kk.ret.trans yr
  have krd := kk.read.trans yrd
  have g' := gg.trans yg
  by_cases h4 : y.op.k = 4 ∨ y.op.k = 5 ∨ y.op.k = 6
  · rw [if_pos h4]; split
    · rename_i hg
      have no : ¬ ownL (sharedX y) := by unfold ownL; unfold takeL at l; omega
      refine ⟨fun _ => ?_, no, fun h => ?_, ?_, fun h => ?_⟩
      · rw [← kt] at hg
        rcases l with l | ⟨l1, l⟩ | ⟨l1, l⟩ | ⟨l1, l⟩ | ⟨l1, l2, l3, l⟩
        · exact .ent (by rw [kop]; omega) g' (.inl l) kr krd (fun h => by rw [kop] at h; omega) (fun _ => hg)
        · exact .chk (.inl ⟨by rw [kop]; exact l1, l⟩) g' kr krd hg
        · exact .chk (.inr (.inl ⟨by rw [kop]; exact l1, l⟩)) g' kr krd hg
        · exact .chk (.inr (.inr ⟨by rw [kop]; exact l1, l⟩)) g' kr krd hg
        · omega
      · rcases h.2.2 with h5 | h5
        · exact not_cls g' (by unfold takeL at l; omega) h5
        · unfold takeL at l; omega
      · unfold Go.Proofs.YtaeepogbgflbpaaGreat.pnd; rw [if_neg (by rw [kop]; omega)]
      · unfold takeL at l; omega
    · exact bgn_end 8 yrd (by omega) (by decide) (fun h => rfl)
  rw [if_neg h4]
  by_cases h3 : y.op.k = 3
  · rw [if_pos h3]
    have no : ¬ ownL (sharedX y) := by unfold ownL; unfold takeL at l; omega
    have t0 : (sharedX y).t = 0 := kt.trans (yt h3)
    refine ⟨fun _ => ?_, no, fun h => ?_, ?_, fun h => ?_⟩
    · rcases l with l | l | l | l | ⟨l1, l2, l3, l⟩
      · exact .ent (by rw [kop]; omega) g' (.inl l) kr krd (fun _ => t0) (fun h => absurd (by rw [kop]; exact h3) h)
      · omega
      · omega
      · omega
      · exact .tak (.inl (by rw [kop]; exact h3)) g' l kr (fun _ => t0) (fun h => by rw [kop] at h; omega)
    · have := h.1; rw [kop] at this; omega
    · unfold Go.Proofs.YtaeepogbgflbpaaGreat.pnd; rw [if_neg (fun h => h.2 t0)]
    · unfold takeL at l; omega
  rw [if_neg h3]
  by_cases h7 : y.op.k = 7
  · rw [if_pos h7]; split
    · exact bgn_line (by show y.op.k ≠ 3 ∧ y.op.k ≠ 4 ∧ y.op.k ≠ 5 ∧ y.op.k ≠ 6; omega) (.inr (.inl ⟨h7, yg, rfl⟩)) (show (62 : Int) ≠ 0 by decide)
    · exact bgn_end 9 yrd (by omega) (by decide) (fun h => by omega)
  rw [if_neg h7]
  by_cases h8 : y.op.k = 8
  · rw [if_pos h8]
    exact bgn_line (by show y.op.k ≠ 3 ∧ y.op.k ≠ 4 ∧ y.op.k ≠ 5 ∧ y.op.k ≠ 6; omega) (.inr (.inr (.inl ⟨h8, yg, .inl rfl⟩))) (show (70 : Int) ≠ 0 by decide)
  rw [if_neg h8]
  by_cases h9 : y.op.k = 9
  · rw [if_pos h9]; split
    · exact bgn_line (by show y.op.k ≠ 3 ∧ y.op.k ≠ 4 ∧ y.op.k ≠ 5 ∧ y.op.k ≠ 6; omega) (.inr (.inr (.inr (.inl ⟨h9, yg, .inl rfl⟩)))) (show (36 : Int) ≠ 0 by decide)
    · exact bgn_end 8 yrd (by omega) (by decide) (fun h => by omega)
  rw [if_neg h9]
  exact bgn_end 3 yrd (by omega) (by decide) (fun h => by omega)
section
variable {c : Cfg} {n : Nat} {h h' : Hl} {w : Nat} {b : Wk} {nx : Int} {E0 : List Ev}
theorem inv_begin (I : Inv c n h) (hw : w < h.l.length) (h8 : h.l.length ≤ 8) (idle : (X h w).line = 0) (nx0 : 0 ≤ nx) (M : Moved h h' w b nx E0) (hm : h'.m = h.m) (lm : Lim (20 * (n + 1)) b)
    (B : ∀ (T : Int → Prop) (S : List Int), Bgn h.m T S b) : Inv c (n + 1) h' := by
  obtain ⟨S, G, wis⟩ := I.st
  have hw8 : w < 8 := by omega
  have B0 := B (TT h') S
  have hT : ∀ t, TT h t → TT h' t := fun t => M.mono
  have ffm : ∀ t, FF h' t → FF h t := fun t ht => by
    rcases M.ff ht with h1 | ⟨l, _, r, _⟩
    · exact h1
    · exact absurd r (B0.zero l).2.1
  refine inv_next (S' := S) I hw M.l nx0 lm (M.evn I.evn) (M.evr I.evr lm.read) (M.evok I.evok (fun l k => ⟨.inr ⟨.inr ((B0.zero l).2.2.2 k), (B0.zero l).2.2.1⟩, fun _ r => absurd r (B0.zero l).2.1⟩)) (M.toldn hw8 I.toldn) (fun i hi hne => M.told hw8 (by omega) hne) (by rw [hm]) ?_ (by rw [hm]; exact I.live.mono hT) (fun l => by rw [hm]; exact B0.wi l)
    (fun i _ hai => by rw [hm]; exact (wis i hai).monoT hT) (fun _ o => absurd o B0.own) (fun t _ o => by rw [hm]; exact o) (fun t _ o => by rw [hm]; exact o) (.inl ?_) (fun t ht => .inl (ffm t ht)) (fun _ p => absurd p B0.free)
  · rw [hm]; exact G.mono (by omega)
  · rw [M.iss hw hw8 (fun l k => absurd k (B0.zero l).1), B0.pnd]
    unfold Go.Proofs.YtaeepogbgflbpaaGreat.iss; rw [if_neg (by omega)]
end
end Go.Proofs.YtaeepogbgflbpaaGreat
end

/- Every pick keeps what holds of a hall. No condition. -/
section
set_option linter.unusedVariables false
set_option linter.unusedSimpArgs false
set_option maxRecDepth 100000
namespace Go.Proofs.YtaeepogbgflbpaaGreat
open Go Go.Ax

theorem skip_ev {e : Ev} (h : e.kind ≠ 4) : skipB e = true := by unfold skipB; rw [decide_eq_true_eq]; exact .inl h
/-- What is left of a pick behind its step: whether the operation is over. -/
theorem moved_of {h H : Hl} {w : Nat} {b : Wk} {nx : Int} {E0 : List Ev} (hw : w < h.l.length) (hl : H.l = h.l.set w ⟨b, (wrAt h w).prog, nx⟩) (he : H.ev = h.ev ++ E0) (ht : H.told = h.told) (e0 : ∀ e ∈ E0, skipB e = true ∧ e.ans.read = []) (n0 : E0.length ≤ 3)
    {h' : Hl} (hh : h' = if b.line = 0 then overH H (w : Int) else H) : Moved h h' w b nx E0 ∧ h'.m = H.m := by
  have hat : wrAt H (w : Int) = ⟨b, (wrAt h w).prog, nx⟩ := by
    show H.l.getD w (K.dflt (tab 59)) = _
    rw [hl, getD_set _ _ _ _ _ hw, if_pos rfl]
  by_cases hz : b.line = 0
  · rw [if_pos hz] at hh
    have key : (overH H (w : Int)).l = H.l ∧ (overH H (w : Int)).m = H.m ∧ (overH H (w : Int)).ev = H.ev ++ [evOf H w 4 acc0 0] ∧ (overH H (w : Int)).told = if b.op.k = 3 ∧ b.ret = 0 then setT8 H.told (w : Int) (getT H.told (w : Int) ++ [b.t]) else H.told := by
      unfold overH
      rw [hat]
      dsimp only
      split <;> exact ⟨rfl, rfl, rfl, rfl⟩
    rw [← hh] at key
    refine ⟨⟨key.1.trans hl, e0, n0, fun h0 => absurd hz h0, fun _ => ⟨evOf H w 4 acc0 0, rfl, ?_, by rw [key.2.2.1, he], by rw [key.2.2.2, ht]⟩⟩, key.2.1⟩
    unfold evOf; rw [hat]; rfl
  · rw [if_neg hz] at hh
    subst hh
    exact ⟨⟨hl, e0, n0, fun _ => ⟨he, ht⟩, fun h0 => absurd h0 hz⟩, rfl⟩
theorem lim_shared {n : Nat} {x : Wk} (h : Lim n x) : Lim n (sharedX x) := by
  unfold sharedX; split
  · exact lim_body h
  · exact lim_same h rfl rfl rfl rfl rfl rfl
theorem lim_begin {n : Nat} {x : Wk} (h : Lim n x) (c : Cfg) (o : OpD) (t : Int) : Lim n (beginW (c, x, o, t)) := by
  unfold beginW
  show Lim n (begX c (startX x o t) o)
  have hs : Lim n (startX x o t) := ⟨h.rack, Nat.zero_le _, h.sum⟩
  generalize startX x o t = y at hs
  have f : ∀ l : Int, Lim n { y with line := l } := fun l => lim_same hs rfl rfl rfl rfl rfl rfl
  have e : ∀ l : Int, Lim n (endX y l) := fun l => lim_same hs rfl rfl rfl rfl rfl rfl
  unfold begX
  exact lim_if (lim_if (e _) (f _)) (lim_if (lim_if (f _) (e _)) (lim_if (lim_if (lim_shared hs) (e _)) (lim_if (lim_shared hs) (lim_if (lim_if (f _) (e _)) (lim_if (f _) (lim_if (lim_if (f _) (e _)) (e _)))))))
theorem Inv.mono {c : Cfg} {n : Nat} {h : Hl} (I : Inv c n h) : Inv c (n + 1) h := by
  obtain ⟨S, G, wis⟩ := I.st
  exact ⟨I.c, I.len, fun i => (I.lim i).mono (by omega), by have := I.evn; omega, fun e he => by have := I.evr e he; omega, I.evok, fun w => by have := I.toldn w; omega, I.prog, I.ops, ⟨S, G.mono (by omega), wis⟩, I.apart, I.live, I.tick, I.tnd, I.tap, I.fr, I.pf, I.pfap⟩
/-- A pick of nobody, or of a worker with nothing left. -/
theorem Inv.tick0 {c : Cfg} {n : Nat} {h : Hl} (I : Inv c n h) : Inv c n (pk0 h) :=
  ⟨I.c, I.len, I.lim, I.evn, I.evr, I.evok, I.toldn, I.prog, I.ops, I.st, I.apart, I.live, I.tick, I.tnd, I.tap, I.fr, I.pf, I.pfap⟩
theorem line41 {m : Md} {T : Int → Prop} {S : List Int} {a : Wk} {w : Int} (h : WI m T S a) (l : a.line = 41) : (workS m w a).2.op.k = 3 ∧ (workS m w a).2.ret = 0 := by
  rw [w41 l]
  obtain ⟨kk, _⟩ := giveBack_ok { a with b := 0, i := 0, t := tickW (wr (a.i - 1)) a.g, line := 0 }
  have e1 : (s41 m a).2.op = a.op := kk.op
  have e2 : (s41 m a).2.ret = a.ret := kk.ret
  rw [e1, e2]
  cases h with
  | oth k f =>
    exfalso
    rcases f with ⟨_, _, l⟩ | ⟨_, _, l⟩ | ⟨_, _, l⟩ | ⟨_, _, l⟩ | c
    · omega
    · omega
    · omega
    · omega
    · exact cls_own c (.inr (.inl l))
  | ent k g l' => omega
  | chk k => omega
  | tak k g l' => unfold takeL at l'; omega
  | pop k g r t l' => exact ⟨k, r⟩
  | kil k g r rd gd t l' => omega
  | pus k g r gd t d o l' => omega
  | wri k g r gd t l' => omega
  | red k g r gd t l' => omega
  | cl3 k c => exact absurd (Or.inr (Or.inl l)) (cls_own c)
  | cl4 k c => exact absurd (Or.inr (Or.inl l)) (cls_own c)
theorem inv_pick {c : Cfg} {n : Nat} {h : Hl} (I : Inv c n h) (hn : n ≤ 1000000) (v : Int) : Inv c (n + 1) (pickH h v) := by
  obtain ⟨S, G, wis⟩ := I.st
  have h8 : h.l.length ≤ 8 := by have := (sizes_of G.w.v).w; have e := I.len; rw [I.c] at this; omega
  by_cases hv : isW h v = false
  · have : pickH h v = pk0 h := if_pos hv
    rw [this]; exact I.mono.tick0
  · have hv' : isW h v = true := by simpa using hv
    obtain ⟨v0, v1⟩ := isW_iff.1 hv'
    obtain ⟨w, rfl⟩ : ∃ w : Nat, v = (w : Int) := ⟨v.toNat, by omega⟩
    have hw : w < h.l.length := by omega
    have pick0 : pickH h (w : Int) = if (wrAt h w).x.line = 0 then beginH (pk0 h) w else if pointed h w = true then (if (pkS h w).2.line = 0 then overH (pk3 h w) w else pk3 h w) else (if (pkS h w).2.line = 0 then overH (pk2 h w) w else pk2 h w) := if_neg hv
    by_cases hz : (wrAt h w).x.line = 0
    · rw [if_pos hz] at pick0
      have hw0 : isW (pk0 h) (w : Int) = true := hv'
      by_cases hp : ((wrAt (pk0 h) w).prog.length : Int) ≤ (wrAt (pk0 h) w).next
      · have : beginH (pk0 h) (w : Int) = pk0 h := if_pos hp
        rw [pick0, this]; exact I.mono.tick0
      · have hb : beginH (pk0 h) (w : Int) = if (wrAt (bg4 (pk0 h) w) w).x.line = 0 then overH (bg5 (pk0 h) w) w else bg4 (pk0 h) w := if_neg hp
        rw [pick0, hb]
        have hat : wrAt (bg4 (pk0 h) w) (w : Int) = ⟨bx1 (pk0 h) w, (wrAt h w).prog, wr ((wrAt h w).next + 1)⟩ := by
          show (bl4 (pk0 h) w).getD ((w : Int)).toNat (K.dflt (tab 59)) = _
          rw [bw4_eq hw0, bw2_eq hw0, bw1_eq hw0, bw0_eq hw0]; rfl
        have hl4 : (bg4 (pk0 h) w).l = h.l.set w ⟨bx1 (pk0 h) w, (wrAt h w).prog, wr ((wrAt h w).next + 1)⟩ := by
          show bl4 (pk0 h) w = _
          have e1 : bl4 (pk0 h) w = h.l.set w { bw2 (pk0 h) w with x := { (bw2 (pk0 h) w).x with ret := (bw1 (pk0 h) w).x.ret } } := by
            unfold bl4 bl2 bl1 bl0
            rw [show ((w : Int)).toNat = w from rfl, List.set_set, List.set_set, List.set_set]; rfl
          rw [e1, bw2_eq hw0, bw1_eq hw0, bw0_eq hw0]; rfl
        have hx : bx1 (pk0 h) w = beginW (h.m.c, X h w, nextOp (pk0 h) w, ticketH (bg0 (pk0 h) w) (nextOp (pk0 h) w)) := by
          unfold bx1; rw [bw0_eq hw0]; rfl
        have lm : Lim (20 * (n + 1)) (bx1 (pk0 h) w) := by rw [hx]; exact (lim_begin (I.lim w) _ _ _).mono (by omega)
        have B : ∀ (T : Int → Prop) (S : List Int), Bgn h.m T S (bx1 (pk0 h) w) := fun T S => by rw [hx]; exact beg_ok _ _ _
        have hpr := I.prog w
        have nx0 : 0 ≤ wr ((wrAt h w).next + 1) := by
          have hp : ¬ ((wrAt h w).prog.length : Int) ≤ (wrAt h w).next := hp
          rw [wr_in (by omega)]; omega
        by_cases hbz : (bx1 (pk0 h) w).line = 0
        · rw [hat, if_pos hbz]
          obtain ⟨M, hm⟩ := moved_of (h := h) (H := bg5 (pk0 h) w) (w := w) (b := bx1 (pk0 h) w) (nx := wr ((wrAt h w).next + 1)) (E0 := [evOf (bg2 (pk0 h) w) w 1 acc0 0, evOf (bg4 (pk0 h) w) w 3 acc0 0]) hw hl4 (by show (h.ev ++ [_]) ++ [_] = _; rw [List.append_assoc]; rfl) rfl
            (fun e he => by
              rcases List.mem_cons.1 he with he | he
              · subst he; exact ⟨skip_ev (show (1 : Int) ≠ 4 by decide), rfl⟩
              · obtain rfl := List.mem_singleton.1 he; exact ⟨skip_ev (show (3 : Int) ≠ 4 by decide), rfl⟩) (by simp) (h' := overH (bg5 (pk0 h) w) w) (by rw [if_pos hbz])
          exact inv_begin I hw h8 hz nx0 M (hm.trans rfl) lm B
        · rw [hat, if_neg hbz]
          obtain ⟨M, hm⟩ := moved_of (h := h) (H := bg4 (pk0 h) w) (w := w) (b := bx1 (pk0 h) w) (nx := wr ((wrAt h w).next + 1)) (E0 := [evOf (bg2 (pk0 h) w) w 1 acc0 0]) hw hl4 rfl rfl
            (fun e he => by obtain rfl := List.mem_singleton.1 he; exact ⟨skip_ev (show (1 : Int) ≠ 4 by decide), rfl⟩) (by simp) (h' := bg4 (pk0 h) w) (by rw [if_neg hbz])
          exact inv_begin I hw h8 hz nx0 M (hm.trans rfl) lm B
    · rw [if_neg hz] at pick0
      have ha : act h w := ⟨hw, hz⟩
      have hpr := I.prog w
      have hl1 : (pk1 h (w : Int)).l = h.l.set w ⟨(workS h.m w (X h w)).2, (wrAt h w).prog, (wrAt h w).next⟩ := rfl
      by_cases hpt : pointed h w = true
      · rw [if_pos hpt] at pick0
        have hat : (wrAt (pk2 h w) (w : Int)).x = (workS h.m w (X h w)).2 := by
          have : wrAt (pk2 h w) (w : Int) = wrAt (pk1 h w) (w : Int) := rfl
          rw [this, pk1_at hv']; rfl
        obtain ⟨M, hm⟩ := moved_of (h := h) (H := pk3 h w) (w := w) (b := (workS h.m w (X h w)).2) (nx := (wrAt h w).next) (E0 := [evOf (pk1 h w) w 2 (pkS h w).1.seen (wrAt h w).x.line, evOf (pk2 h w) w 3 acc0 0]) hw hl1 (by show (h.ev ++ [_]) ++ [_] = _; rw [List.append_assoc]; rfl) rfl
          (fun e he => by
            rcases List.mem_cons.1 he with he | he
            · subst he; exact ⟨skip_ev (show (2 : Int) ≠ 4 by decide), rfl⟩
            · obtain rfl := List.mem_singleton.1 he; exact ⟨skip_ev (show (3 : Int) ≠ 4 by decide), rfl⟩) (by simp) (h' := pickH h w) pick0
        refine inv_step I ha h8 hn hpr.1 M (hm.trans rfl) (fun l => ⟨_, by simp only [List.mem_cons]; exact .inr (.inl rfl), ?_, ?_⟩)
        · have := line41 (w := (w : Int)) (wis w ha) l
          unfold isAl evOf; rw [hat, decide_eq_true_eq]; exact ⟨rfl, this.1, this.2⟩
        · unfold evOf; rw [hat]
      · rw [if_neg hpt] at pick0
        obtain ⟨M, hm⟩ := moved_of (h := h) (H := pk2 h w) (w := w) (b := (workS h.m w (X h w)).2) (nx := (wrAt h w).next) (E0 := [evOf (pk1 h w) w 2 (pkS h w).1.seen (wrAt h w).x.line]) hw hl1 rfl rfl
          (fun e he => by obtain rfl := List.mem_singleton.1 he; exact ⟨skip_ev (show (2 : Int) ≠ 4 by decide), rfl⟩) (by simp) (h' := pickH h w) pick0
        refine inv_step I ha h8 hn hpr.1 M (hm.trans rfl) (fun l => absurd ?_ hpt)
        unfold pointed pointB
        rw [decide_eq_true_eq]
        exact .inr (.inr (.inr (.inr (.inr (.inr (.inr (.inl l)))))))
end Go.Proofs.YtaeepogbgflbpaaGreat
end
