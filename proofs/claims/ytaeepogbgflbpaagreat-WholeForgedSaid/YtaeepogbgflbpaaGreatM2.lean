/- Parts of the proof, in one file: further parts. No condition. -/
import Derived.Test.YtaeepogbgflbpaaGreatM1
import Derived.LoopN
import Derived.Deep.LoopGhost

/- A verified symbolic executor, part 28: vectors of records with a cell that names a slice of the run's own; values whose slices are given up for good. Over any program; the facts on its types are given with it. -/
section
set_option linter.unusedVariables false
set_option linter.unusedSimpArgs false
namespace Go.Ax
variable {El : TypeId → Type}

/-- A row of cells of which one is not looked at. -/
def putK : List (AVal El) → Nat → List (AVal El)
  | [], _ => []
  | _ :: l, 0 => .top :: l
  | a :: l, n + 1 => a :: putK l n
theorem putK_len (l : List (AVal El)) (k : Nat) : (putK l k).length = l.length := by
  induction l generalizing k with
  | nil => rfl
  | cons a l ih => cases k with
    | zero => rfl
    | succ k => simp [putK, ih]
theorem putK_at (l : List (AVal El)) (k j : Nat) : (putK l k)[j]? = if j = k ∧ j < l.length then some .top else l[j]? := by
  induction l generalizing k j with
  | nil => simp [putK]
  | cons a l ih => cases k with
    | zero => cases j with
      | zero => simp [putK]
      | succ j => simp [putK]
    | succ k => cases j with
      | zero => simp [putK]
      | succ j => simp [putK, ih]
/-- The named cell of record 'i'. -/
def nmAt (i : Nat) : List (AVal El) → Nat → Tree (AVal El)
  | [], _ => .leaf .nils
  | a :: l, m => .node (decide (i = m)) (.leaf a) (nmAt i l (m + 1))
theorem nmAt_out {i : Nat} {nm : List (AVal El)} {m : Nat} (hm : m ≤ i) {x : AVal El} (h : (nmAt i nm m).Out x) : x = nm.getD (i - m) .nils := by
  induction nm generalizing m with
  | nil => simp only [nmAt, Tree.Out] at h; rw [← h]; simp
  | cons a l ih =>
    simp only [nmAt, Tree.Out, decide_eq_true_eq, decide_eq_false_iff_not] at h
    rcases h with ⟨h1, h2⟩ | ⟨h1, h2⟩
    · subst h1; rw [← h2]; simp
    · have := ih (by omega) h2
      rw [this, show i - m = (i - (m + 1)) + 1 from by omega]; simp
/-- The named cell of record 'i', set. -/
def nmPut {X : Type} (i : Nat) (f : List (AVal El) → Tree X) (x : AVal El) (pre : List (AVal El)) : List (AVal El) → Nat → Tree X
  | [], _ => .fail
  | a :: l, m => .node (decide (i = m)) (f (pre ++ x :: l)) (nmPut i f x (pre ++ [a]) l (m + 1))
theorem nmPut_out {X : Type} {i : Nat} {f : List (AVal El) → Tree X} {x : AVal El} {pre nm : List (AVal El)} {m : Nat} (hm : m ≤ i) (hp : pre.length = m) {y : X} (h : (nmPut i f x pre nm m).Out y) :
    i < m + nm.length ∧ (f ((pre ++ nm).set i x)).Out y := by
  induction nm generalizing m pre with
  | nil => simp only [nmPut, Tree.Out] at h
  | cons a l ih =>
    simp only [nmPut, Tree.Out, decide_eq_true_eq, decide_eq_false_iff_not] at h
    rcases h with ⟨h1, h2⟩ | ⟨h1, h2⟩
    · subst h1
      refine ⟨by simp, ?_⟩
      rw [List.set_append_right _ _ (by omega), hp, Nat.sub_self]; exact h2
    · obtain ⟨g1, g2⟩ := ih (pre := pre ++ [a]) (by omega) (by simp [hp]) h2
      refine ⟨by simp; omega, ?_⟩
      rw [List.append_assoc] at g2
      exact g2

/-- A value whose own slices are given up for good. -/
def frzL : List (Res El) → List (AVal El) → List (AVal El) × List (Nat × Res El)
  | _, [] => ([], [])
  | R, a :: l => match a with
    | .vec r => match getR R r with
      | .vec t xs => match frzL (setR R r .dead) l with
        | (l', u) => (.list t xs :: l', (r, .dead) :: u)
      | _ => match frzL R l with
        | (l', u) => (a :: l', u)
    | _ => match frzL R l with
      | (l', u) => (a :: l', u)
def frzA (R : List (Res El)) (x : AVal El) : AVal El × List (Nat × Res El) := match x with
  | .agg cs => match frzL R cs with
    | (cs', u) => (.agg cs', u)
  | .vec r => match getR R r with
    | .vec t xs => (.list t xs, [(r, .dead)])
    | _ => (x, [])
  | x => (x, [])
/-- The same effect, after others. -/
def preU (u : List (Nat × Res El)) (y : Eff El) : Eff El := (y.1, u ++ y.2)

section defs
variable (c : Cx El) (R : List (Res El))

def aLoadR (t : TypeId) (a : AVal El) : Tree (AVal El) := match a with
  | .eptr r sz i off => match getR R r with
    | .recs t' xs k nm => if sz = c.L.sz t' ∧ k < c.L.sz t' then .need (i < xs.length) (match isAggT c.P t, (c.P.info? t).map (·.size), Nat.beq off k with
      | some false, some _, true => nmAt i nm 0
      | _, _, _ => aPart c t (dropF off (putK (c.L.enc t' (xs.getD i (c.L.dflt t'))) k))) else .fail
    | _ => aLoad c R t (.eptr r sz i off)
  | a => aLoad c R t a
/-- Whether a store goes to elements that hold lists. -/
def frzT (a : AVal El) : Bool := match a with
  | .eptr r _ _ off => match getR R r with
    | .recs _ _ k _ => !Nat.beq off k
    | .vec t _ => !c.flat t
    | _ => false
  | _ => false
def aStoreR0 (t : TypeId) (a x : AVal El) : Tree (Eff El) := match a with
  | .eptr r sz i off => match getR R r with
    | .recs t' xs k nm => match cellsOf x, (c.P.info? t).map (·.size) with
      | some cs, some n => if cs.length = n ∧ sz = c.L.sz t' ∧ k < c.L.sz t' ∧ c.dat t' = true then
          match Nat.beq off k, cs with
          | true, [x] => .need (i < xs.length) (nmPut i (fun nm' => .leaf (.top, [(r, .recs t' xs k nm')])) x [] nm 0)
          | true, _ => .fail
          | false, cs => if k < off ∨ off + cs.length ≤ k then
              match putF (c.L.enc t' (xs.getD i (c.L.dflt t'))) off cs with
              | some new => match c.L.dec t' new with
                | some y => .need (i < xs.length) (.leaf (.top, [(r, .recs t' (xs.set i y) k nm)]))
                | none => .fail
              | none => .fail
            else .fail
        else .fail
      | _, _ => .fail
    | _ => aStore c R t (.eptr r sz i off) x
  | a => aStore c R t a x
def aStoreR (t : TypeId) (a x : AVal El) : Tree (Eff El) := match frzT c R a with
  | true => match frzA R x with
    | (x', u) => (aStoreR0 c (updR R u) t a x').bind fun y => .leaf (preU u y)
  | false => aStoreR0 c R t a x
def aIndexAddrR (t : TypeId) (a ix : AVal El) : Tree (AVal El) := match a with
  | .vec r => match getR R r with
    | .recs t' xs k nm => match ix, c.P.underlying t with
      | .int _ i, some (.slice e) => if t' = e ∧ c.known e = true then .need (0 ≤ i ∧ i < xs.length) (.leaf (.eptr r (c.L.sz t') i.toNat 0)) else .fail
      | _, _ => .fail
    | _ => aIndexAddr c R t (.vec r) ix
  | a => aIndexAddr c R t a ix
def aLenR (t : TypeId) (x : AVal El) : Tree (AVal El) := match x with
  | .vec r => match getR R r with
    | .recs t' xs k nm => match c.P.underlying t with
      | some (.slice _) => .leaf (.int .i64 xs.length)
      | _ => .fail
    | _ => aLenM c R t (.vec r)
  | x => aLenM c R t x
def eightN (b : Nat) : List (AVal El) := [.vec b, .vec (b + 1), .vec (b + 2), .vec (b + 3), .vec (b + 4), .vec (b + 5), .vec (b + 6), .vec (b + 7)]
def appU2 {X : Type} : List X → List X → List X
  | [], l => l
  | a :: k, l => a :: appU2 k l
theorem appU2_eq {X : Type} (k l : List X) : appU2 k l = k ++ l := by
  induction k with
  | nil => rfl
  | cons a k ih => simp [appU2, ih]
/-- New empty slices of the run's own. -/
def vecN (t : TypeId) (b : Nat) : Nat → List (Nat × Res El)
  | 0 => []
  | m + 1 => (b + m, .vec t []) :: vecN t b m
def aMakeR (base : Nat) (t : TypeId) (l k : AVal El) : Tree (Eff El) := match l, k, c.P.underlying t with
  | .int _ n, .int _ m, some (.slice e) => match c.P.info? e, c.recT e with
    | some i, some kk => if c.known e = true then
        .need (0 ≤ n ∧ n = m ∧ (i.bytes : Int) * n ≤ 140737488355328 ∧ n ≤ 140737488355328) (.leaf (.vec base, appU2 (vecN (c.recE e) (base + 1) 8) [(base, .recs e (List.replicate n.toNat (c.L.dflt e)) kk (eightN (base + 1)))]))
      else .fail
    | _, none => aMake c base t l k
    | _, _ => .fail
  | _, _, _ => .fail
/-- Parts whose own slices are given up for good. -/
def frzP : List (Res El) → List (Nat × AVal El) → List (Nat × AVal El) × List (Nat × Res El)
  | _, [] => ([], [])
  | R, (i, x) :: l => match frzA R x with
    | (x', u) => match frzP (updR R u) l with
      | (l', u') => ((i, x') :: l', u ++ u')
/-- A nil slice, read as an empty list where the element's zero is one. -/
def denil1 (d x : AVal El) : AVal El := match x with
  | .nils => match d with
    | .list u [] => .list u []
    | _ => .nils
  | x => x
def denil : List (AVal El) → List (AVal El) → List (AVal El)
  | d :: ds, a :: as => denil1 d a :: denil ds as
  | _, as => as
def denilA (d : List (AVal El)) (x : AVal El) : AVal El := match x with
  | .agg cs => .agg (denil d cs)
  | .nils => match d with
    | [.list u []] => .list u []
    | _ => .nils
  | x => x
def denilP (d : List (AVal El)) : List (Nat × AVal El) → List (Nat × AVal El)
  | [] => []
  | (i, x) :: l => (i, denilA d x) :: denilP d l
def aBuildSliceR (base : Nat) (t : TypeId) (len : Nat) (parts : List (Nat × AVal El)) : Tree (Eff El) :=
  match c.P.underlying t with
  | some (.slice e) => match c.dat e with
    | true => match frzP R parts with
      | (p', u) => (aBuildSlice2 c base t len (denilP (c.L.enc e (c.L.dflt e)) p')).bind fun y => .leaf (preU u y)
    | false => aBuildSlice2 c base t len parts
  | _ => aBuildSlice2 c base t len parts
end defs

section proofs
variable {I : Nat → Prop} {E : Env} {R : List (Res El)} {w w' : World} {c : Cx El} {L : Lay El}

/-- The cells of one record. -/
theorem rec_row {t : TypeId} {xs : List (El t)} {k : Nat} {i b : Nat} {cells : Array Value} {ty : TypeId} (hi : i < xs.length) (hb : w.heap[b]? = some (.cells cells ty (0, 0))) (vals : Nat → Nat → Value)
    (hcells : ∀ (i j : Nat), i < xs.length → j < L.sz t → cells[i * L.sz t + j]? = some (vals i j) ∧ (vals i j).oneCell' = true)
    (hrep : ∀ (i : Nat) (x : El t), xs[i]? = some x → ∀ (j : Nat) (c : AVal El), (L.enc t x)[j]? = some c → j ≠ k → Rep L I w noE c (vals i j)) :
    ∃ vs, RowAt L I w E ⟨b, i * L.sz t, none⟩ (putK (L.enc t (xs.getD i (L.dflt t))) k) vs ∧ (∀ j, j < L.sz t → vs[j]? = some (vals i j)) := by
  obtain ⟨vs, hl, hv⟩ := list_of_fun (vals i) (L.sz t)
  have hx : xs[i]? = some xs[i] := List.getElem?_eq_getElem hi
  have hg : xs.getD i (L.dflt t) = xs[i] := by simp [List.getD, hx]
  have lt : ∀ {j : Nat} {v : Value}, vs[j]? = some v → j < L.sz t := fun {j v} hv' => by
    rcases Nat.lt_or_ge j vs.length with h | h
    · omega
    · rw [List.getElem?_eq_none h] at hv'; cases hv'
  refine ⟨vs, ⟨⟨by rw [putK_len, L.enc_len, hl], fun j c v hc hv' => ?_⟩, fun v hv' => ?_, fun j v hv' => ?_⟩, hv⟩
  · have hj := lt hv'
    rw [hv j hj] at hv'; cases hv'
    rw [putK_at] at hc
    split at hc
    · cases hc; exact .top
    · rename_i hne
      rw [hg] at hc
      by_cases hjk : j = k
      · exact absurd ⟨hjk, by rw [L.enc_len]; exact hj⟩ hne
      · exact (hrep i _ hx j c hc hjk).mono (fun _ h => h) (fun _ _ => rfl) (fun _ _ h => by cases h)
  · obtain ⟨j, hj⟩ := List.mem_iff_getElem?.1 hv'
    have hj' := lt hj
    rw [hv j hj'] at hj; cases hj
    exact (hcells i j hi hj').2
  · have hj' := lt hv'
    rw [hv j hj'] at hv'; cases hv'
    rw [Addr.add_lit, cell_of hb]
    exact (hcells i j hi hj').1

theorem load_row {t : TypeId} {x : AVal El} {b o : Nat} {cs : List (AVal El)} {vs : List Value} (row : RowAt c.L I w E ⟨b, o, none⟩ cs vs) (h2 : (aPart c t cs).Out x) :
    ∃ u, (Instr.loadAt t (.pointer (some ⟨b, o, none⟩))).run c.P w = .ok u w ∧ Rep c.L I w E x u := by
  unfold aPart at h2
  split at h2
  · rename_i n hagg hn
    split at h2
    · rename_i l hl
      simp only [Tree.Out] at h2; subst h2
      obtain ⟨rfl, hle⟩ := takeF_some hl
      have hlen : n = (vs.take n).length := by have := row.reps.len; simp; omega
      have hcells : (loadCells ⟨b, o, none⟩ n).run c.P w = .ok (vs.take n).toArray w := by
        have := run_loadCells_list (P := c.P) w ⟨b, o, none⟩ (vs.take n) (fun j u hu => row.at_ j u (by
          rw [List.getElem?_take] at hu
          split at hu
          · exact hu
          · cases hu))
        rwa [← hlen] at this
      refine ⟨.agg (vs.take n).toArray, ?_, (row.reps.take n).agg (fun v hv => row.one v (List.mem_of_mem_take hv))⟩
      simp [Instr.loadAt, Instr.sureAddr, loadVar, run_isAggT hagg, info_size hn, hcells]
    · exact h2.elim
  · rename_i n hagg hn
    split at h2
    · rename_i a' rest
      simp only [Tree.Out] at h2; subst h2
      obtain ⟨u, us, rfl, g1, g2⟩ := row.reps.inv_cons
      have := row.at_ 0 u rfl
      rw [Addr.add_lit, Nat.add_zero] at this
      refine ⟨u, ?_, g1⟩
      simp [Instr.loadAt, Instr.sureAddr, loadVar, run_isAggT hagg, this]
    · exact h2.elim
  · exact h2.elim

theorem aLoadR_ok (h : HR c.L I w E R) {t : TypeId} {a x : AVal El} {v : Value} (hr : Rep c.L I w E a v) (ho : (aLoadR c R t a).Out x) :
    ∃ u, (Instr.loadAt t v).run c.P w = .ok u w ∧ Rep c.L I w E x u := by
  unfold aLoadR at ho
  split at ho
  · rename_i r sz i off
    split at ho
    · rename_i t' xs k nm hg
      split at ho
      · rename_i hsz
        obtain ⟨rfl, hk⟩ := hsz
        simp only [Tree.Out] at ho
        obtain ⟨hi, ho⟩ := ho
        cases hr with
        | eptr he =>
          rename_i b v'
          obtain ⟨e, h1, h2⟩ := h.res r (by rw [hg]; simp)
          rw [he] at h1; cases h1
          rw [hg] at h2
          obtain ⟨b', cap, cells, vals, k1, k2, k3, k4, k5, k6, k7, ts, k8, k9⟩ := h2
          cases k1
          obtain ⟨vs, g1, g0⟩ := rec_row (E := E) hi k4 vals k6 k7
          split at ho
          · rename_i n hagg hn hof
            have hof := Nat.eq_of_beq_eq_true hof
            subst hof
            have hx := nmAt_out (Nat.zero_le _) ho
            have hc := (k6 i off hi hk).1
            refine ⟨vals i off, ?_, ?_⟩
            · simp [Instr.loadAt, Instr.sureAddr, loadVar, run_isAggT hagg, cell_of k4, hc]
            · rw [hx, k9 i hi, Nat.sub_zero]
              by_cases hl : i < nm.length
              · have hl' : i < ts.length := by rw [← k8.len]; exact hl
                rw [List.getD_eq_getElem?_getD, List.getD_eq_getElem?_getD, List.getElem?_eq_getElem hl, List.getElem?_eq_getElem hl']
                exact k8.at_ i _ _ (List.getElem?_eq_getElem hl) (List.getElem?_eq_getElem hl')
              · have hl' : ts.length ≤ i := by rw [← k8.len]; omega
                rw [List.getD_eq_getElem?_getD, List.getD_eq_getElem?_getD, List.getElem?_eq_none (by omega), List.getElem?_eq_none hl']
                exact .nils
          · have g3 := g1.drop off rfl
            rw [Addr.add_lit] at g3
            rw [dropF_eq] at ho
            exact load_row g3 ho
      · exact ho.elim
    · exact aLoad_ok h hr ho
  · exact aLoad_ok h hr ho

theorem aLenR_ok (h : HR c.L I w E R) {t ty : TypeId} {x r : AVal El} {v : Value} (hx : Rep c.L I w E x v) (ho : (aLenR c R t x).Out r) :
    ∃ u, (Builtin.len_ #[t] ty #[v]).run c.P w = .ok u w ∧ Rep c.L I w E r u := by
  unfold aLenR at ho
  split at ho
  · rename_i r'
    split at ho
    · rename_i t' xs k nm hg
      split at ho
      · rename_i e hu
        simp only [Tree.Out] at ho; subst ho
        obtain ⟨e', h1, h2⟩ := h.res r' (by rw [hg]; simp)
        rw [hg] at h2
        cases hx with
        | vec he hone =>
          rw [h1] at he; cases he
          obtain ⟨b', cap, cells, vals, k1, k2, _⟩ := h2
          rw [k2]; exact ⟨_, by simp [Builtin.len_, run_underlying hu]; rfl, .int⟩
      · exact ho.elim
    · exact aLenM_ok h hx ho
  · exact aLenM_ok h hx ho

theorem aIndexAddrR_ok (h : HR c.L I w E R) {t : TypeId} {a ix r : AVal El} {va vx : Value} (ha : Rep c.L I w E a va) (hx : Rep c.L I w E ix vx) (ho : (aIndexAddrR c R t a ix).Out r) :
    ∃ v, (Instr.indexAt t va vx).run c.P w = .ok v w ∧ Rep c.L I w E r v := by
  unfold aIndexAddrR at ho
  split at ho
  · rename_i r'
    split at ho
    · rename_i t' xs k nm hg
      split at ho
      · rename_i kk i e hu
        cases hx
        split at ho
        · rename_i hk
          obtain ⟨rfl, hk⟩ := hk
          simp only [Tree.Out] at ho
          obtain ⟨⟨h0, hlt⟩, rfl⟩ := ho
          have hsz := (c.known_ok _ hk).1
          obtain ⟨e, h1, h2⟩ := h.res r' (by rw [hg]; simp)
          rw [hg] at h2
          cases ha with
          | vec he hone =>
            rw [h1] at he; cases he
            obtain ⟨b', cap, cells, vals, k1, k2, _⟩ := h2
            rw [k2]
            obtain ⟨blk, raw⟩ := e
            simp only at k1 k2
            subst k1
            refine ⟨_, ?_, .eptr h1⟩
            simp [Instr.indexAt, run_underlying hu, asIntOf, h0, hlt, info_size hsz, Addr.add_lit]
        · exact ho.elim
      · exact ho.elim
    · exact aIndexAddr_ok h ha hx ho
  · exact aIndexAddr_ok h ha hx ho

theorem updR_two (R : List (Res El)) (u v : List (Nat × Res El)) : updR R (u ++ v) = updR (updR R u) v := by
  induction u generalizing R with
  | nil => rfl
  | cons p u ih => obtain ⟨r, x⟩ := p; exact ih _

/-- One effect after others. -/
theorem Post.after {I I1 I' : Nat → Prop} {E E' : Env} {R : List (Res El)} {w w' : World} {base : Nat} {u upd : List (Nat × Res El)} {a : AVal El} {v : Value} (hx : Ext I E R w I1 E (updR R u) w)
    (h : Post L I1 E (updR R u) w base upd a v w' I' E') : Post L I E R w base (u ++ upd) a v w' I' E' :=
  ⟨by rw [updR_two]; exact hx.trans h.ext, by rw [updR_two]; exact h.hr, h.rep, fun r hr => h.names r (fun x hx => hr x (List.mem_append_right _ hx))⟩

theorem frzL_ok {l : List (AVal El)} : ∀ {I : Nat → Prop} {R : List (Res El)} {vs : List Value}, HR c.L I w E R → Reps c.L I w E l vs →
    ∃ I', Ext I E R w I' E (updR R (frzL R l).2) w ∧ HR c.L I' w E (updR R (frzL R l).2) ∧ Reps c.L I' w E (frzL R l).1 vs := by
  induction l with
  | nil => intro I R vs h hr; exact ⟨I, Ext.refl, h, hr⟩
  | cons a l ih =>
    intro I R vs h hr
    obtain ⟨v, vs', rfl, h1, h2⟩ := hr.inv_cons
    have other : frzL R (a :: l) = (a :: (frzL R l).1, (frzL R l).2) → ∃ I', Ext I E R w I' E (updR R (frzL R (a :: l)).2) w ∧ HR c.L I' w E (updR R (frzL R (a :: l)).2) ∧ Reps c.L I' w E (frzL R (a :: l)).1 (v :: vs') := by
      intro e
      obtain ⟨I', g1, g2, g3⟩ := ih h h2
      rw [e]
      exact ⟨I', g1, g2, .cons (h.keepRep g1 h1) g3⟩
    cases a with
    | vec r =>
      cases hg : getR R r with
      | vec t xs =>
        obtain ⟨I1, g1, g2, g3⟩ := asList_ok h h1 (x := .vec r) (t := t) (xs := xs) (upd := [(r, .dead)]) (by simp [asList, hg])
        obtain ⟨I2, k1, k2, k3⟩ := ih (R := setR R r .dead) g2 (h.keepReps g1 h2)
        have e : frzL R (.vec r :: l) = (.list t xs :: (frzL (setR R r .dead) l).1, (r, .dead) :: (frzL (setR R r .dead) l).2) := by
          simp only [frzL, hg]
        rw [e]
        exact ⟨I2, g1.trans k1, k2, .cons (g2.keepRep k1 g3) k3⟩
      | _ => exact other (by simp only [frzL, hg])
    | _ => exact other (by simp only [frzL])

theorem frzA_ok {x : AVal El} {v : Value} (h : HR c.L I w E R) (hr : Rep c.L I w E x v) :
    ∃ I', Ext I E R w I' E (updR R (frzA R x).2) w ∧ HR c.L I' w E (updR R (frzA R x).2) ∧ Rep c.L I' w E (frzA R x).1 v := by
  have same : frzA R x = (x, []) → ∃ I', Ext I E R w I' E (updR R (frzA R x).2) w ∧ HR c.L I' w E (updR R (frzA R x).2) ∧ Rep c.L I' w E (frzA R x).1 v := fun e => by
    rw [e]; exact ⟨I, Ext.refl, h, hr⟩
  cases x with
  | agg cs =>
    cases hr with
    | agg hl hh h1 =>
      obtain ⟨I', g1, g2, g3⟩ := frzL_ok h ⟨hl, hh⟩
      exact ⟨I', g1, g2, g3.agg h1⟩
  | vec r =>
    cases hg : getR R r with
    | vec t xs =>
      obtain ⟨I1, g1, g2, g3⟩ := asList_ok h hr (x := .vec r) (t := t) (xs := xs) (upd := [(r, .dead)]) (by simp [asList, hg])
      have e : frzA R (.vec r) = (.list t xs, [(r, .dead)]) := by simp only [frzA, hg]
      rw [e]
      exact ⟨I1, g1, g2, g3⟩
    | _ => exact same (by simp only [frzA, hg])
  | _ => exact same rfl

theorem aStoreR0_ok (h : HR c.L I w E R) {base : Nat} {t : TypeId} {a x : AVal El} {va vx : Value} (ha : Rep c.L I w E a va) (hx : Rep c.L I w E x vx) {y : Eff El}
    (ho : (aStoreR0 c R t a x).Out y) : ∃ w' I' E', (Instr.storeAt t va vx).run c.P w = .ok () w' ∧ Post c.L I E R w base y.2 y.1 undef w' I' E' := by
  unfold aStoreR0 at ho
  split at ho
  · rename_i r sz i off
    split at ho
    · rename_i t' xs k nm hg
      split at ho
      · rename_i cs n hcs hn
        split at ho
        · rename_i hlen
          obtain ⟨hlen, rfl, hk, hdat⟩ := hlen
          obtain ⟨us, g1, g2, g3⟩ := hx.cells_of hcs
          have hul : us.length = n := by rw [← g2.len]; exact hlen
          have hst : ∀ (b o : Nat) (cur : Array Value) (ty : TypeId), w.heap[b]? = some (.cells cur ty (0, 0)) → o + us.length ≤ cur.size → va = .pointer (some ⟨b, o, none⟩) →
              (Instr.storeAt t va vx).run c.P w = .ok () (w.setRow b (cur.toList.take o ++ us ++ cur.toList.drop (o + us.length)).toArray) := by
            intro b o cur ty hb hle hva
            have hr := run_storeCells_at c.P b o ty us 0 cur w hb (by simpa using hle) g3
            simp only [Nat.add_zero] at hr
            subst hva
            have hsz : vx.cells.size = n := by rw [g1]; simpa using hul
            have hsz' : us.length = n := hul
            simp only [Instr.storeAt, Instr.sureAddr, storeVar, Sem.run_bind, Sem.run_pure, Result.andThen_ok, info_size hn, hsz, ne_eq, not_true_eq_false, if_false]
            rw [g1]
            simpa using hr
          cases ha with
          | eptr he =>
            rename_i b v
            obtain ⟨e, h1, h2⟩ := h.res r (by rw [hg]; simp)
            rw [he] at h1; cases h1
            rw [hg] at h2
            obtain ⟨b', cap, cells, vals, k1, k2, k3, k4, k5, k6, k7, ts, k8, k9⟩ := h2
            cases k1
            -- the store itself
            have go : ∀ (new : List (AVal El)) (y' : El t') (nm' : List (AVal El)) (ts' : List Value), i < xs.length → off + cs.length ≤ c.L.sz t' → c.L.enc t' y' = new →
                (∀ j a, new[j]? = some a → j ≠ k → (off ≤ j ∧ j < off + cs.length → cs[j - off]? = some a) ∧ (¬ (off ≤ j ∧ j < off + cs.length) → (c.L.enc t' (xs.getD i (c.L.dflt t')))[j]? = some a)) →
                Reps c.L I w E nm' ts' → (∀ q, q < xs.length → (if q = i ∧ off ≤ k ∧ k < off + us.length then us.getD (k - off) undef else vals q k) = ts'.getD q (.slice none 0 0)) →
                ∃ w' I' E', (Instr.storeAt t (.pointer (some ⟨b, i * c.L.sz t' + off, none⟩)) vx).run c.P w = .ok () w' ∧ Post c.L I E R w base [(r, .recs t' (xs.set i y') k nm')] .top undef w' I' E' := by
              intro new y' nm' ts' hi hle henc hcell hnm hts
              have hmul : (i + 1) * c.L.sz t' ≤ cap * c.L.sz t' := Nat.mul_le_mul_right _ (by omega)
              rw [Nat.succ_mul] at hmul
              have hsize : (i * c.L.sz t' + off) + us.length ≤ cells.size := by rw [← g2.len, k5]; omega
              have hrun := hst b (i * c.L.sz t' + off) cells t' k4 hsize rfl
              have hIw : ∀ q, I q → (w.setRow b (cells.toList.take (i * c.L.sz t' + off) ++ us ++ cells.toList.drop (i * c.L.sz t' + off + us.length)).toArray).heap[q]? = w.heap[q]? :=
                fun q hq => setRow_other w b q _ (fun e => h.notI b ⟨r, _, by rw [hg]; simp, he, rfl⟩ (e ▸ hq))
              have hx0 : xs[i]? = some xs[i] := List.getElem?_eq_getElem hi
              have hgD : xs.getD i (c.L.dflt t') = xs[i] := by simp [List.getD, hx0]
              have hnew : HRes c.L I (w.setRow b (cells.toList.take (i * c.L.sz t' + off) ++ us ++ cells.toList.drop (i * c.L.sz t' + off + us.length)).toArray) E ⟨some b, v⟩ (.recs t' (xs.set i y') k nm') := by
                refine ⟨b, cap, _, fun i' j' => if i' = i ∧ off ≤ j' ∧ j' < off + us.length then us.getD (j' - off) undef else vals i' j', rfl, by simpa using k2, by simpa using k3,
                  setRow_heap w b _ _ t' (0, 0) k4, by
                    have := hsize
                    simp only [List.size_toArray, List.length_append, List.length_take, List.length_drop, Array.length_toList]
                    omega, ?_, ?_, ts', hnm.mono (fun _ h => h) hIw (Env.le_refl _), fun q hq => hts q (by simpa using hq)⟩
                · intro i' j' hi' hj'
                  dsimp only
                  simp only [List.length_set] at hi'
                  have hv := k6 i' j' hi' hj'
                  have hspl := splice_get cells.toList us (i * c.L.sz t' + off) (by simpa using hsize) (i' * c.L.sz t' + j')
                  have hiff : (i * c.L.sz t' + off ≤ i' * c.L.sz t' + j' ∧ i' * c.L.sz t' + j' < i * c.L.sz t' + off + us.length) ↔ (i' = i ∧ off ≤ j' ∧ j' < off + us.length) := by
                    have hul' : off + us.length ≤ c.L.sz t' := by rw [← g2.len]; exact hle
                    constructor
                    · rintro ⟨p1, p2⟩
                      have hii : i' = i := by
                        rcases Nat.lt_trichotomy i' i with hlt | heq | hgt
                        · have : (i' + 1) * c.L.sz t' ≤ i * c.L.sz t' := Nat.mul_le_mul_right _ hlt
                          rw [Nat.succ_mul] at this; omega
                        · exact heq
                        · have : (i + 1) * c.L.sz t' ≤ i' * c.L.sz t' := Nat.mul_le_mul_right _ hgt
                          rw [Nat.succ_mul] at this; omega
                      subst hii
                      exact ⟨rfl, by omega, by omega⟩
                    · rintro ⟨rfl, p1, p2⟩
                      omega
                  rw [List.getElem?_toArray, hspl]
                  by_cases hc' : i' = i ∧ off ≤ j' ∧ j' < off + us.length
                  · rw [if_pos (hiff.2 hc'), if_pos hc']
                    obtain ⟨rfl, p1, p2⟩ := hc'
                    have hk : i' * c.L.sz t' + j' - (i' * c.L.sz t' + off) = j' - off := by omega
                    have hlt : j' - off < us.length := by omega
                    rw [hk, List.getD_eq_getElem?_getD, List.getElem?_eq_getElem hlt]
                    exact ⟨rfl, g3 _ (List.getElem_mem hlt)⟩
                  · rw [if_neg (fun h => hc' (hiff.1 h)), if_neg hc']
                    simpa using hv
                · intro i' x' hx' j' c' hc' hjk
                  dsimp only
                  by_cases hii : i' = i
                  · subst hii
                    rw [List.getElem?_set_self hi] at hx'
                    cases hx'
                    have hda : datA c' = true := datL_at (c.dat_ok _ hdat y') hc'
                    rw [henc] at hc'
                    obtain ⟨q1, q2⟩ := hcell j' c' hc' hjk
                    by_cases hc2 : off ≤ j' ∧ j' < off + cs.length
                    · have hlt : j' - off < us.length := by rw [← g2.len]; omega
                      rw [if_pos ⟨rfl, hc2.1, by rw [← g2.len]; exact hc2.2⟩, List.getD_eq_getElem?_getD, List.getElem?_eq_getElem hlt]
                      have hrep := g2.at_ (j' - off) c' _ (q1 hc2) (List.getElem?_eq_getElem hlt)
                      exact (hrep.dat hda).mono (fun _ h => h) hIw (Env.le_refl _)
                    · rw [if_neg (fun hh => hc2 ⟨hh.2.1, by rw [g2.len]; exact hh.2.2⟩)]
                      have q3 := q2 hc2
                      rw [hgD] at q3
                      exact (k7 i' _ hx0 j' c' q3 hjk).mono (fun _ h => h) hIw (Env.le_refl _)
                  · rw [List.getElem?_set_ne (Ne.symm hii)] at hx'
                    rw [if_neg (fun hh => hii hh.1)]
                    exact (k7 i' x' hx' j' c' hc' hjk).mono (fun _ h => h) hIw (Env.le_refl _)
              obtain ⟨m1, m2⟩ := h.write (r := r) (by rw [hg]; simp) he rfl (.recs t' (xs.set i y') k nm') (by simp)
                (w' := w.setRow b (cells.toList.take (i * c.L.sz t' + off) ++ us ++ cells.toList.drop (i * c.L.sz t' + off + us.length)).toArray) rfl rfl rfl (setRow_size _ _ _) (fun q hq => setRow_other w b q _ hq) hnew
              exact ⟨_, I, E, hrun, ⟨m2, m1, .top, fun _ _ => rfl⟩⟩
            split at ho
            · rename_i x1 hof
              have hof := Nat.eq_of_beq_eq_true hof
              subst hof
              simp only [Tree.Out] at ho
              obtain ⟨hi, ho⟩ := ho
              obtain ⟨q1, q2⟩ := nmPut_out (Nat.zero_le _) rfl ho
              simp only [Tree.Out, List.nil_append] at q2
              subst q2
              have hx0 : xs[i]? = some xs[i] := List.getElem?_eq_getElem hi
              have hgD : xs.getD i (c.L.dflt t') = xs[i] := by simp [List.getD, hx0]
              have hset : xs.set i xs[i] = xs := by simp
              obtain ⟨u1, us', rfl, r1, r2⟩ := g2.inv_cons
              cases r2.inv_nil
              have := go (c.L.enc t' xs[i]) xs[i] (nm.set i x1) (ts.set i u1) hi (by simp; omega) rfl (fun j a ha hjk => ⟨fun hh => by simp at hh; omega, fun _ => by rw [hgD]; exact ha⟩) (k8.set i r1) (fun q hq => by
                have hl : i < ts.length := by rw [← k8.len]; omega
                by_cases hqi : q = i
                · subst hqi
                  rw [if_pos ⟨rfl, Nat.le_refl _, by simp⟩, Nat.sub_self]
                  simp [hl]
                · rw [if_neg (fun hh => hqi hh.1), k9 q hq]
                  rw [List.getD_eq_getElem?_getD, List.getD_eq_getElem?_getD, List.getElem?_set_ne (Ne.symm hqi)])
              rw [hset] at this
              exact this
            · exact ho.elim
            · split at ho
              · rename_i hno
                split at ho
                · rename_i new hput
                  split at ho
                  · rename_i y' hdec
                    simp only [Tree.Out] at ho
                    obtain ⟨hi, ho⟩ := ho; subst ho
                    obtain ⟨rfl, hle⟩ := putF_some hput
                    rw [c.L.enc_len] at hle
                    have hdec' := c.L.dec_enc _ _ _ hdec
                    refine go _ y' nm ts hi hle hdec' (fun j a ha hjk => ?_) k8 (fun q hq => ?_)
                    · rw [splice_get _ _ _ (by rw [c.L.enc_len]; exact hle)] at ha
                      exact ⟨fun hh => by rwa [if_pos hh] at ha, fun hh => by rwa [if_neg hh] at ha⟩
                    · rw [if_neg (fun hh => by rw [← g2.len] at hh; omega)]
                      exact k9 q hq
                  · exact ho.elim
                · exact ho.elim
              · exact ho.elim
        · exact ho.elim
      · exact ho.elim
    · exact aStore_ok h ha hx ho
  · exact aStore_ok h ha hx ho

theorem aStoreR_ok (h : HR c.L I w E R) {base : Nat} {t : TypeId} {a x : AVal El} {va vx : Value} (ha : Rep c.L I w E a va) (hx : Rep c.L I w E x vx) {y : Eff El}
    (ho : (aStoreR c R t a x).Out y) : ∃ w' I' E', (Instr.storeAt t va vx).run c.P w = .ok () w' ∧ Post c.L I E R w base y.2 y.1 undef w' I' E' := by
  unfold aStoreR at ho
  split at ho
  · rw [Tree.out_bind] at ho
    obtain ⟨z, h1, h2⟩ := ho
    simp only [Tree.Out] at h2; subst h2
    obtain ⟨I', g1, g2, g3⟩ := frzA_ok h hx
    obtain ⟨w', I2, E2, k1, k2⟩ := aStoreR0_ok (base := base) g2 (h.keepRep g1 ha) g3 h1
    exact ⟨w', I2, E2, k1, k2.after g1⟩
  · exact aStoreR0_ok h ha hx ho

theorem PartsRep.keep {I' : Nat → Prop} {E' : Env} {R' : List (Res El)} (h : HR c.L I w E R) (hx : Ext I E R w I' E' R' w') : ∀ {ps : List (Nat × AVal El)} {pv : List (Nat × Value)}, PartsRep c.L I w E ps pv → PartsRep c.L I' w' E' ps pv
  | [], [], _ => trivial
  | (i, x) :: ps, (j, v) :: pv, hp => ⟨hp.1, h.keepRep hx hp.2.1, PartsRep.keep h hx hp.2.2⟩
  | [], _ :: _, hp => hp.elim
  | _ :: _, [], hp => hp.elim
theorem frzP_ok {l : List (Nat × AVal El)} : ∀ {I : Nat → Prop} {R : List (Res El)} {pv : List (Nat × Value)}, HR c.L I w E R → PartsRep c.L I w E l pv →
    ∃ I', Ext I E R w I' E (updR R (frzP R l).2) w ∧ HR c.L I' w E (updR R (frzP R l).2) ∧ PartsRep c.L I' w E (frzP R l).1 pv := by
  induction l with
  | nil => intro I R pv h hr; exact ⟨I, Ext.refl, h, hr⟩
  | cons p l ih =>
    intro I R pv h hr
    obtain ⟨i, x⟩ := p
    cases pv with
    | nil => exact hr.elim
    | cons q pv =>
      obtain ⟨j, v⟩ := q
      obtain ⟨h1, h2, h3⟩ := hr
      obtain ⟨I1, g1, g2, g3⟩ := frzA_ok h h2
      obtain ⟨I2, k1, k2, k3⟩ := ih g2 (h3.keep h g1)
      have e : frzP R ((i, x) :: l) = ((i, (frzA R x).1) :: (frzP (updR R (frzA R x).2) l).1, (frzA R x).2 ++ (frzP (updR R (frzA R x).2) l).2) := rfl
      rw [e]
      simp only [updR_two]
      exact ⟨I2, g1.trans k1, k2, h1, g2.keepRep k1 g3, k3⟩

theorem denil1_ok {d x : AVal El} {v : Value} (h : Rep L I w E x v) : Rep L I w E (denil1 d x) v := by
  unfold denil1
  split
  · split
    · cases h; exact .listNil
    · exact h
  · exact h
theorem denil_ok : ∀ {d cs : List (AVal El)} {vs : List Value}, Reps L I w E cs vs → Reps L I w E (denil d cs) vs
  | [], cs, vs, h => by unfold denil; exact h
  | d :: ds, [], vs, h => by unfold denil; exact h
  | d :: ds, a :: as, vs, h => by
    obtain ⟨v, vs', rfl, h1, h2⟩ := h.inv_cons
    unfold denil
    exact Reps.cons (denil1_ok h1) (denil_ok h2)
theorem denilA_ok {d : List (AVal El)} {x : AVal El} {v : Value} (h : Rep L I w E x v) : Rep L I w E (denilA d x) v := by
  unfold denilA
  split
  · cases h with
    | agg hl hh h1 =>
      have := denil_ok (d := d) (⟨hl, hh⟩ : Reps L I w E _ _)
      exact .agg this.len this.at_ h1
  · split
    · cases h; exact .listNil
    · exact h
  · exact h
theorem denilP_ok {d : List (AVal El)} : ∀ {l : List (Nat × AVal El)} {pv : List (Nat × Value)}, PartsRep L I w E l pv → PartsRep L I w E (denilP d l) pv
  | [], [], h => trivial
  | (i, x) :: l, (j, v) :: pv, h => ⟨h.1, denilA_ok h.2.1, denilP_ok h.2.2⟩
  | [], _ :: _, h => h.elim
  | _ :: _, [], h => h.elim
theorem aBuildSliceR_ok (h : HR c.L I w E R) {base : Nat} (hb : E base = none) {t : TypeId} {len : Nat} {parts : List (Nat × AVal El)} {pv : List (Nat × Value)} {y : Eff El} (hp : PartsRep c.L I w E parts pv)
    (ho : (aBuildSliceR c R base t len parts).Out y) : ∃ u w' I' E', (Instr.buildSlice t len pv.toArray).run c.P w = .ok u w' ∧ Post c.L I E R w base y.2 y.1 u w' I' E' := by
  unfold aBuildSliceR at ho
  split at ho
  · split at ho
    · rw [Tree.out_bind] at ho
      obtain ⟨z, h1, h2⟩ := ho
      simp only [Tree.Out] at h2; subst h2
      obtain ⟨I', g1, g2, g3⟩ := frzP_ok h hp
      obtain ⟨u, w', I2, E2, k1, k2⟩ := aBuildSlice2_ok g2 hb (denilP_ok g3) h1
      exact ⟨u, w', I2, E2, k1, k2.after g1⟩
    · exact aBuildSlice2_ok h hb hp ho
  · exact aBuildSlice2_ok h hb hp ho

theorem mem_vecN {t : TypeId} {b m r : Nat} {x : Res El} : (r, x) ∈ (vecN t b m : List (Nat × Res El)) ↔ x = .vec t [] ∧ b ≤ r ∧ r < b + m := by
  induction m with
  | zero => simp only [vecN, List.not_mem_nil, Nat.add_zero, false_iff]; omega
  | succ m ih =>
    simp only [vecN, List.mem_cons, ih, Prod.mk.injEq]
    constructor
    · rintro (⟨rfl, rfl⟩ | ⟨h1, h2, h3⟩)
      · exact ⟨rfl, by omega, by omega⟩
      · exact ⟨h1, h2, by omega⟩
    · rintro ⟨h1, h2, h3⟩
      by_cases h : r = b + m
      · exact .inl ⟨h, h1⟩
      · exact .inr ⟨h1, h2, by omega⟩
theorem HR.addNils (t : TypeId) (b m : Nat) : ∀ {E : Env} {R : List (Res El)}, HR L I w E R → (∀ j, j < m → E (b + j) = none) →
    ∃ E1, HR L I w E1 (updR R (vecN t b m)) ∧ Ext I E R w I E1 (updR R (vecN t b m)) w ∧ (∀ j, j < m → E1 (b + j) = some ⟨none, .slice none 0 0⟩) ∧ (∀ r, (r < b ∨ b + m ≤ r) → E1 r = E r) := by
  induction m with
  | zero => intro E R h hf; exact ⟨E, h, Ext.refl, fun j hj => by omega, fun _ _ => rfl⟩
  | succ m ih =>
    intro E R h hf
    obtain ⟨g1, g2⟩ := h.add (hf m (by omega)) ⟨none, .slice none 0 0⟩ (.vec t []) (Fr.refl _ _) (.inl ⟨rfl, rfl, none, rfl⟩) (fun b hb => by cases hb)
    obtain ⟨E1, k1, k2, k3, k4⟩ := ih g1 (fun j hj => by rw [Env.put_ne _ _ (by omega)]; exact hf j (by omega))
    refine ⟨E1, k1, g2.trans k2, fun j hj => ?_, fun r hr => ?_⟩
    · by_cases hjm : j = m
      · subst hjm
        rw [k4 (b + j) (by omega), Env.put_same]
      · exact k3 j (by omega)
    · rw [k4 r (by omega), Env.put_ne _ _ (by omega)]
theorem aMakeR_ok (h : HR c.L I w E R) {base : Nat} (hb : E base = none) {t : TypeId} {l k : AVal El} {vl vk : Value} {y : Eff El} (hl : Rep c.L I w E l vl) (hk : Rep c.L I w E k vk) (hfree : ∀ r x, (r, x) ∈ y.2 → base ≤ r → E r = none)
    (ho : (aMakeR c base t l k).Out y) : ∃ u w' I' E', (Instr.makeSlice t vl vk).run c.P w = .ok u w' ∧ Post c.L I E R w base y.2 y.1 u w' I' E' := by
  unfold aMakeR at ho
  split at ho
  · rename_i k1 n k2 m e hu
    split at ho
    · rename_i i kk hi hrec
      split at ho
      · rename_i hkn
        simp only [Tree.Out] at ho
        obtain ⟨⟨h0, rfl, hby, hmax⟩, rfl⟩ := ho
        cases hl; cases hk
        obtain ⟨hkl, hkz⟩ := c.rec_ok e kk hrec
        obtain ⟨i', z, hi', hz, his, hzs, hpos, hzc⟩ := zero_of c hkn
        rw [hi] at hi'; cases hi'
        have hkz : z.cells[kk]? = some (.slice none 0 0) := by simpa [hi, hz] using hkz
        have hrun := run_make (P := c.P) w t e i z hu hi hz k1 k2 n n h0 (Int.le_refl _) (by omega) (by omega)
        have hcell : ∀ q j : Nat, q < n.toNat → j < c.L.sz e → (madeCells z.cells (n.toNat * i.size))[q * c.L.sz e + j]? = some (z.cells[j]?.getD undef) := by
          intro q j hq hj
          have hlt : q * c.L.sz e + j < n.toNat * c.L.sz e := by
            have : (q + 1) * c.L.sz e ≤ n.toNat * c.L.sz e := Nat.mul_le_mul_right _ (by omega)
            rw [Nat.succ_mul] at this; omega
          have hmod : (q * c.L.sz e + j) % z.cells.size = j := by rw [hzs, Nat.mul_comm, Nat.mul_add_mod, Nat.mod_eq_of_lt hj]
          have hjz : j < z.cells.size := by omega
          unfold madeCells
          rw [his, Array.getElem?_map, Array.getElem?_range, if_pos hlt]
          simp only [Option.map_some, hmod]
          rw [getElem!_pos z.cells j hjz, Array.getElem?_eq_getElem hjz]
          rfl

        have hf := Fr.alloc w (.cells (madeCells z.cells (n.toNat * i.size)) e)
        obtain ⟨E1, m1, m2, m3, m4⟩ := h.addNils (c.recE e) (base + 1) 8 (fun j hj => hfree _ (.vec (c.recE e) []) (by rw [appU2_eq]; exact List.mem_append_left _ (mem_vecN.2 ⟨rfl, by omega, by omega⟩)) (by omega))
        have hb1 : E1 base = none := by rw [m4 base (by omega)]; exact hb
        have vrep : ∀ j, j < 8 → Rep c.L I (w.alloc (.cells (madeCells z.cells (n.toNat * i.size)) e)) (E1.put base ⟨some w.heap.size, .slice (some ⟨w.heap.size, 0, none⟩) n.toNat n.toNat⟩) (.vec (base + 1 + j)) (.slice none 0 0) := fun j hj => by
          have := Rep.vec (L := c.L) (I := I) (w := w.alloc (.cells (madeCells z.cells (n.toNat * i.size)) e)) (E := E1.put base ⟨some w.heap.size, .slice (some ⟨w.heap.size, 0, none⟩) n.toNat n.toNat⟩) (r := base + 1 + j) (e := ⟨none, .slice none 0 0⟩) (by rw [Env.put_ne _ _ (by omega)]; exact m3 j hj) rfl
          exact this
        obtain ⟨g1, g2⟩ := m1.add hb1 ⟨some w.heap.size, .slice (some ⟨w.heap.size, 0, none⟩) n.toNat n.toNat⟩ (.recs e (List.replicate n.toNat (c.L.dflt e)) kk (eightN (base + 1))) hf
          ⟨w.heap.size, n.toNat, madeCells z.cells (n.toNat * i.size), fun q j => z.cells[j]?.getD undef, rfl, by simp, by simp, heap_alloc_new w _, by rw [size_madeCells, his],
            fun q j hq hj => by
              rw [List.length_replicate] at hq
              refine ⟨hcell q j hq hj, ?_⟩
              obtain ⟨v, g1, g2, _⟩ := hzc j hj
              show (z.cells[j]?.getD undef).oneCell' = true
              rw [g1]; exact g2,
            fun q x hx j a ha _ => by
              have hq : q < n.toNat := by
                rcases Nat.lt_or_ge q (List.replicate n.toNat (c.L.dflt e)).length with h' | h'
                · simpa using h'
                · rw [List.getElem?_eq_none h'] at hx; cases hx
              rw [List.getElem?_replicate, if_pos hq] at hx
              cases hx
              have hj : j < c.L.sz e := by
                rcases Nat.lt_or_ge j (c.L.enc e (c.L.dflt e)).length with h' | h'
                · rw [c.L.enc_len] at h'; exact h'
                · rw [List.getElem?_eq_none h'] at ha; cases ha
              obtain ⟨v, g1, g2, g3⟩ := hzc j hj
              show Rep _ _ _ _ a (z.cells[j]?.getD undef)
              rw [g1]
              exact g3 _ _ a ha,
            List.replicate 8 (.slice none 0 0), .cons (vrep 0 (by omega)) (.cons (vrep 1 (by omega)) (.cons (vrep 2 (by omega)) (.cons (vrep 3 (by omega)) (.cons (vrep 4 (by omega)) (.cons (vrep 5 (by omega)) (.cons (vrep 6 (by omega)) (.cons (vrep 7 (by omega)) .nil))))))), fun q _ => by
              show z.cells[kk]?.getD undef = _
              rw [hkz]
              have e : ∀ m q : Nat, (List.replicate m (Value.slice none 0 0)).getD q (.slice none 0 0) = .slice none 0 0 := fun m q => by
                rw [List.getD_eq_getElem?_getD, List.getElem?_replicate]
                split <;> rfl
              rw [e]; rfl⟩
          (fun b hb => by cases hb; exact Nat.le_refl _)
        have hupd : updR R (appU2 (vecN (c.recE e) (base + 1) 8) [(base, .recs e (List.replicate n.toNat (c.L.dflt e)) kk (eightN (base + 1)))]) = setR (updR R (vecN (c.recE e) (base + 1) 8)) base (.recs e (List.replicate n.toNat (c.L.dflt e)) kk (eightN (base + 1))) := by
          rw [appU2_eq, updR_two]; rfl
        refine ⟨_, _, I, _, hrun, by rw [hupd]; exact m2.trans g2, by rw [hupd]; exact g1, .vec (Env.put_same _ _ _) rfl, fun r hr => ?_⟩
        have hr1 : r ≠ base := fun e' => by
          have := hr (.recs e (List.replicate n.toNat (c.L.dflt e)) kk (eightN (base + 1))) (by rw [e', appU2_eq]; simp)
          omega
        have hr2 : ¬ (base + 1 ≤ r ∧ r < base + 1 + 8) := fun h' => by
          have := hr (.vec (c.recE e) []) (by rw [appU2_eq]; exact List.mem_append_left _ (mem_vecN.2 ⟨rfl, h'.1, h'.2⟩))
          omega
        rw [Env.put_ne _ _ hr1]
        exact m4 r (by omega)
      · exact ho.elim
    · exact aMake_ok h hb hl hk ho
    · exact ho.elim
  · exact ho.elim

theorem aBuildSlice2_base {base : Nat} {t : TypeId} {len : Nat} {parts : List (Nat × AVal El)} {y : Eff El} (ho : (aBuildSlice2 c base t len parts).Out y) : ∃ x, (base, x) ∈ y.2 := by
  unfold aBuildSlice2 aBuildSlice at ho
  split at ho <;> try exact ho.elim
  split at ho
  · split at ho <;> try exact ho.elim
    split at ho <;> try exact ho.elim
    split at ho <;> try exact ho.elim
    split at ho <;> try exact ho.elim
    · simp only [Tree.Out] at ho; subst ho; exact ⟨_, List.mem_singleton.2 rfl⟩
    all_goals (rename_i h; exact (h _ rfl).elim)
  · split at ho <;> try exact ho.elim
    split at ho <;> try exact ho.elim
    · simp only [Tree.Out] at ho; subst ho; exact ⟨_, List.mem_singleton.2 rfl⟩
    all_goals (rename_i h; exact (h _ rfl).elim)
theorem aBuildSliceR_base {base : Nat} {t : TypeId} {len : Nat} {parts : List (Nat × AVal El)} {y : Eff El} (ho : (aBuildSliceR c R base t len parts).Out y) : ∃ x, (base, x) ∈ y.2 := by
  unfold aBuildSliceR at ho
  split at ho
  · split at ho
    · rw [Tree.out_bind] at ho
      obtain ⟨z, h1, h2⟩ := ho
      simp only [Tree.Out] at h2; subst h2
      obtain ⟨x, hx⟩ := aBuildSlice2_base h1
      exact ⟨x, List.mem_append_right _ hx⟩
    · exact aBuildSlice2_base ho
  · exact aBuildSlice2_base ho
theorem aMakeR_base {base : Nat} {t : TypeId} {l k : AVal El} {y : Eff El} (ho : (aMakeR c base t l k).Out y) : ∃ x, (base, x) ∈ y.2 := by
  unfold aMakeR at ho
  split at ho <;> try exact ho.elim
  split at ho
  · split at ho <;> try exact ho.elim
    simp only [Tree.Out] at ho
    obtain ⟨_, rfl⟩ := ho
    exact ⟨_, by rw [appU2_eq]; exact List.mem_append_right _ (List.mem_singleton.2 rfl)⟩
  · unfold aMake at ho
    split at ho <;> try exact ho.elim
    split at ho <;> try exact ho.elim
    split at ho <;> try exact ho.elim
    simp only [Tree.Out] at ho
    obtain ⟨_, rfl⟩ := ho
    exact ⟨_, List.mem_singleton.2 rfl⟩
  · exact ho.elim
end proofs
end Go.Ax
end

/- A verified symbolic executor, part 10: one operation, calls by contract, a region in the text's order. Over any program; the facts on its types are given with it. -/
section
set_option linter.unusedVariables false
set_option linter.unusedSimpArgs false
namespace Go.Ax
variable {El : TypeId → Type}

/-- A contract: from arguments, resources and the first free name to what the call comes to. -/
abbrev GSpec (El : TypeId → Type) := List (AVal El) → List (Res El) → Nat → Tree (Eff El)

def evA (slots : List (AVal El)) : Operand → AVal El
  | .tmp t => nth slots t
  | .const v => absV v
  | .func f => .fn f []
  | .global _ => .top

def mapA (ρ : Operand → AVal El) : List Operand → List (AVal El)
  | [] => []
  | x :: xs => ρ x :: mapA ρ xs
def mapP (ρ : Operand → AVal El) : List (Nat × Operand) → List (Nat × AVal El)
  | [] => []
  | (i, x) :: xs => (i, ρ x) :: mapP ρ xs

def pureT (t : Tree (AVal El)) : Tree (Eff El) := t.bind fun a => .leaf (a, [])

section defs
variable (c : Cx El) (Γ : FuncId → Option (GSpec El)) (R : List (Res El)) (base : Nat) (ρ : Operand → AVal El)

def aMinMax (b : Bool) (x y : AVal El) : Tree (AVal El) :=
  match x, y with
  | .int k n, .int _ m => .leaf (.int k (if b = true then (if m < n then m else n) else (if m > n then m else n)))
  | _, _ => .fail

def aCall (f : FuncId) (args : List (AVal El)) : Tree (Eff El) :=
  match Γ f with
  | some g => g args R base
  | none => .fail

def aBuiltin (b : Builtin) (ats : List TypeId) (args : List (AVal El)) : Tree (Eff El) :=
  match b, ats, args with
  | .len, [t], [x] => pureT (aLenR c R t x)
  | .delete, [t, _], [m, k] => aDelete c R t m k
  | .append, [s, x], [a, b] => aAppend2 c R base s x a b
  | .cap, [t], [x] => pureT (aCap c t x)
  | .min, _, [x, y] => pureT (aMinMax true x y)
  | .max, _, [x, y] => pureT (aMinMax false x y)
  | _, _, _ => .fail

def aop (o : Op) : Tree (Eff El) :=
  match o with
  | .move x => .leaf (ρ x, [])
  | .assign x => .leaf (ρ x, [])
  | .pick a b d => match ρ a with
    | .bool t => .node t (.leaf (ρ b, [])) (.leaf (ρ d, []))
    | _ => .fail
  | .alloc e => aAlloc c base e
  | .box e x => aBox base e (ρ x)
  | .build t parts => pureT (aBuild c t (mapP ρ parts.toList))
  | .buildSlice t n parts => aBuildSliceR c R base t n (mapP ρ parts.toList)
  | .load t a => pureT (aLoadR c R t (ρ a))
  | .store t a x => aStoreR c R t (ρ a) (ρ x)
  | .nilCheck x => match ρ x with
    | .ptr r o => .leaf (.ptr r o, [])
    | .eptr r s i o => .leaf (.eptr r s i o, [])
    | .lptr t xs s i o => .leaf (.lptr t xs s i o, [])
    | _ => .fail
  | .binOp op t x y _ => pureT (aBin c op t (ρ x) (ρ y))
  | .unOp op _ x => pureT (aUn op (ρ x))
  | .convert s d x => pureT (aConv c s d (ρ x))
  | .makeFunc (.func f) first caps => match first.toList with
    | [] => match headTup (mapA ρ caps.toList) with
      | false => .leaf (.fn f (mapA ρ caps.toList), [])
      | true => .fail
    | l => .leaf (.fn f (.tup (mapA ρ l) :: mapA ρ caps.toList), [])
  | .makeSlice t l k => aMakeR c base t (ρ l) (ρ k)
  | .slice t x lo hi mx => aSlice2 c R base t (ρ x) (lo.map ρ) (hi.map ρ) (mx.map ρ)
  | .makeMap t none => aMakeMap c base t
  | .lookup t m k ok => pureT (aLookup c R t (ρ m) (ρ k) ok)
  | .mapUpdate t m k x => aUpdate c R t (ρ m) (ρ k) (ρ x)
  | .insert t m k x => aUpdate c R t (ρ m) (ρ k) (ρ x)
  | .fieldAddr s x f => pureT (aField c s (ρ x) f)
  | .field s x f => pureT (aFieldV c s (ρ x) f)
  | .indexAddr t x i => pureT (aIndexAddrR c R t (ρ x) (ρ i))
  | .index t x i => pureT (aIndex c t (ρ x) (ρ i))
  | .extract t i => pureT (aExtract (ρ t) i)
  | .call cl => match cl.callee with
    | .builtin b => aBuiltin c R base b cl.argTypes.toList (mapA ρ cl.args.toList)
    | .value (.func f) => aCall Γ R base f (mapA ρ cl.args.toList)
    | .value (.tmp t) => match ρ (.tmp t) with
      | .fn f (.tup fs :: caps) => aCall Γ R base f (fs ++ mapA ρ cl.args.toList ++ caps)
      | .fn f caps => aCall Γ R base f (mapA ρ cl.args.toList ++ caps)
      | _ => .fail
    | _ => .fail
  | _ => .fail
end defs

/-- All names from 'n' on are free. -/
def FreeFrom (E : Env) (n : Nat) : Prop := ∀ r, n ≤ r → E r = none

/-- What a contract owes. -/
structure GOk (c : Cx El) (f : FuncId) (g : GSpec El) : Prop where
  enters : ∀ args w, (callFunc f args).run c.P w = .ok (.enter f args) w
  ok : ∀ args R base y, (g args R base).Out y → ∀ I E w vals, Reps c.L I w E args vals → HR c.L I w E R → (∀ r x, (r, x) ∈ y.2 → base ≤ r → E r = none) →
    Calls c.P f vals.toArray w fun e w' => ∃ v I' E', e = .returned v ∧ Post c.L I E R w base y.2 y.1 v w' I' E'

/-- What an operation does to a frame and a world. -/
def Does (P : Program) (o : Oper) (a : Act) (w : World) (Φ : Value → World → Prop) : Prop :=
  ∀ (next : Act → World → Prop) (Q : Exit → Act → World → Prop), (∀ v w', Φ v w' → next (a.put o.dst v) w') → o.wp P a w next Q

section proofs
variable {I : Nat → Prop} {E : Env} {R : List (Res El)} {w w' : World} {c : Cx El} {Γ : FuncId → Option (GSpec El)}

theorem does_value {P : Program} {o : Oper} {a : Act} {Φ : Value → World → Prop} {v : Value} (hr : (execOp a.eval o).run P w = .ok (.value v) w') (h : Φ v w') : Does P o a w Φ := by
  intro next Q hn
  unfold Oper.wp
  rw [hr]
  exact hn v w' h
theorem does_skip {P : Program} {o : Oper} {a : Act} {Φ : Value → World → Prop} (hr : (execOp a.eval o).run P w = .ok .skip w') (h : Φ undef w') : Does P o a w Φ := by
  intro next Q hn
  unfold Oper.wp
  rw [hr]
  exact hn undef w' h
theorem does_enter {P : Program} {o : Oper} {a : Act} {Φ : Value → World → Prop} {f : FuncId} {args : Array Value} (hr : (execOp a.eval o).run P w = .ok (.enter f args) w)
    (h : Calls P f args w fun e w' => ∃ v, e = .returned v ∧ Φ v w') : Does P o a w Φ := by
  intro next Q hn
  unfold Oper.wp
  rw [hr]
  refine Calls.mono h ?_
  rintro e w' ⟨v, rfl, hv⟩
  exact hn v w' hv

/-- The frame's slots stand for the abstract ones. -/
def SlotsOk (c : Cx El) (I : Nat → Prop) (w : World) (E : Env) (slots : List (AVal El)) (a : Act) : Prop := Reps c.L I w E slots a.tmps.toList

theorem evA_ok {slots : List (AVal El)} {a : Act} (h : SlotsOk c I w E slots a) (x : Operand) : Rep c.L I w E (evA slots x) (a.eval x) := by
  cases x with
  | tmp t =>
    have := h.getD t undef
    simpa [evA, Act.eval, Array.getD_eq_getD_getElem?, List.getD_eq_getElem?_getD] using this
  | const v => exact absV_ok v
  | global g => exact .top
  | func f => exact .fn (caps := []) (vs := []) rfl rfl (fun i c v hc => by simp at hc)

theorem mapA_ok {ρ : Operand → AVal El} {a : Act} (h : ∀ x, Rep c.L I w E (ρ x) (a.eval x)) (xs : List Operand) : Reps c.L I w E (mapA ρ xs) (xs.map a.eval) := by
  induction xs with
  | nil => exact Reps.nil
  | cons x xs ih => exact Reps.cons (h x) ih

theorem mapP_ok {ρ : Operand → AVal El} {a : Act} (h : ∀ x, Rep c.L I w E (ρ x) (a.eval x)) (xs : List (Nat × Operand)) : PartsRep c.L I w E (mapP ρ xs) (xs.map fun (i, x) => (i, a.eval x)) := by
  induction xs with
  | nil => trivial
  | cons x xs ih => exact ⟨rfl, h x.2, ih⟩

theorem pureT_out {t : Tree (AVal El)} {y : Eff El} (h : (pureT t).Out y) : ∃ a, t.Out a ∧ y = (a, []) := by
  unfold pureT at h
  rw [Tree.out_bind] at h
  obtain ⟨a, h1, h2⟩ := h
  exact ⟨a, h1, h2.symm⟩

theorem aop_ok {ρ : Operand → AVal El} {a : Act} {base : Nat} {o : Oper} {y : Eff El} (hΓ : ∀ f g, Γ f = some g → GOk c f g) (ev : ∀ x, Rep c.L I w E (ρ x) (a.eval x)) (hr : HR c.L I w E R)
    (ho : (aop c Γ R base ρ o.op).Out y) (hfree : ∀ r x, (r, x) ∈ y.2 → base ≤ r → E r = none) :
    Does c.P o a w fun v w' => ∃ I' E', Post c.L I E R w base y.2 y.1 v w' I' E' := by
  have pureV : ∀ {t : Tree (AVal El)} {s : Sem Value}, (execOp a.eval o = do pure (.value (← s))) → (pureT t).Out y → (∀ r, t.Out r → ∃ v, s.run c.P w = .ok v w ∧ Rep c.L I w E r v) →
      Does c.P o a w fun v w' => ∃ I' E', Post c.L I E R w base y.2 y.1 v w' I' E' := by
    intro t s he hp hk
    obtain ⟨r, h1, rfl⟩ := pureT_out hp
    obtain ⟨v, h2, h3⟩ := hk r h1
    exact does_value (v := v) (w' := w) (by rw [he]; simp [h2]) ⟨I, E, hr.still h3⟩
  have effV : ∀ {s : Sem Value}, (execOp a.eval o = do pure (.value (← s))) → (∃ u w' I' E', s.run c.P w = .ok u w' ∧ Post c.L I E R w base y.2 y.1 u w' I' E') →
      Does c.P o a w fun v w' => ∃ I' E', Post c.L I E R w base y.2 y.1 v w' I' E' := by
    rintro s he ⟨u, w', I', E', h1, h2⟩
    exact does_value (v := u) (w' := w') (by rw [he]; simp [h1]) ⟨I', E', h2⟩
  have callV : ∀ {f : FuncId} {as : List (AVal El)} {vals : List Value}, (execOp a.eval o).run c.P w = (callFunc f vals.toArray).run c.P w → Reps c.L I w E as vals → (aCall Γ R base f as).Out y →
      Does c.P o a w fun v w' => ∃ I' E', Post c.L I E R w base y.2 y.1 v w' I' E' := by
    intro f as vals he hrep hp
    unfold aCall at hp
    split at hp
    · rename_i g hg
      have gok := hΓ f g hg
      refine does_enter (by rw [he, gok.enters]) (Calls.mono (gok.ok as R base y hp I E w vals hrep hr hfree) ?_)
      rintro e w' ⟨v, I', E', h1, h2⟩
      exact ⟨v, h1, I', E', h2⟩
    · exact hp.elim
  have hb0 : ∀ x, (base, x) ∈ y.2 → E base = none := fun x hx => hfree base x hx (Nat.le_refl _)
  cases hop : o.op <;> rw [hop] at ho <;> simp only [aop] at ho <;> try exact ho.elim
  case move x => simp only [Tree.Out] at ho; subst ho; exact does_value (v := a.eval x) (w' := w) (by simp [execOp, hop]) ⟨I, E, hr.still (ev x)⟩
  case assign x => simp only [Tree.Out] at ho; subst ho; exact does_value (v := a.eval x) (w' := w) (by simp [execOp, hop]) ⟨I, E, hr.still (ev x)⟩
  case pick p b d =>
    have hp := ev p
    split at ho
    · rename_i t ht
      rw [ht] at hp
      generalize hv : a.eval p = vp at hp
      cases hp
      simp only [Tree.Out] at ho
      rcases ho with ⟨rfl, rfl⟩ | ⟨rfl, rfl⟩
      · exact does_value (v := a.eval b) (w' := w) (by simp [execOp, hop, hv, asBool]) ⟨I, E, hr.still (ev b)⟩
      · exact does_value (v := a.eval d) (w' := w) (by simp [execOp, hop, hv, asBool]) ⟨I, E, hr.still (ev d)⟩
    · exact ho.elim
  case alloc e =>
    refine effV (s := Instr.alloc e true (.tuple #[])) (by simp [execOp, hop]) (aAlloc_ok hr ?_ ho)
    unfold aAlloc aBox at ho
    split at ho
    · split at ho
      · simp only [Tree.Out] at ho; subst ho; exact hb0 _ (List.mem_singleton.2 rfl)
      · exact ho.elim
    · exact ho.elim
  case box e x =>
    refine effV (s := Instr.box e (a.eval x)) (by simp [execOp, hop]) (aBox_ok hr ?_ (ev x) ho)
    unfold aBox at ho
    split at ho
    · simp only [Tree.Out] at ho; subst ho; exact hb0 _ (List.mem_singleton.2 rfl)
    · exact ho.elim
  case build t parts =>
    refine pureV (s := Instr.build t (parts.map fun (i, x) => (i, a.eval x))) (by simp [execOp, hop]) ho (fun r h => ?_)
    have := aBuild_ok (mapP_ok ev parts.toList) h
    have e : (parts.toList.map fun (p : Nat × Operand) => match p with | (i, x) => (i, a.eval x)).toArray = parts.map fun (p : Nat × Operand) => match p with | (i, x) => (i, a.eval x) := Array.ext' (by simp)
    rw [e] at this
    exact this
  case buildSlice t n parts =>
    have hb : E base = none := by
      obtain ⟨x, hx⟩ := aBuildSliceR_base ho
      exact hb0 x hx
    refine effV (s := Instr.buildSlice t n (parts.map fun (i, x) => (i, a.eval x))) (by simp [execOp, hop]) ?_
    have := aBuildSliceR_ok hr hb (mapP_ok ev parts.toList) ho
    have e : (parts.toList.map fun (p : Nat × Operand) => match p with | (i, x) => (i, a.eval x)).toArray = parts.map fun (p : Nat × Operand) => match p with | (i, x) => (i, a.eval x) := Array.ext' (by simp)
    rw [e] at this
    exact this
  case load t x => exact pureV (s := Instr.loadAt t (a.eval x)) (by simp [execOp, hop]) ho (fun r h => aLoadR_ok hr (ev x) h)
  case store t x z =>
    obtain ⟨w', I', E', h1, h2⟩ := aStoreR_ok (base := base) hr (ev x) (ev z) ho
    exact does_skip (w' := w') (by simp [execOp, hop, h1]) ⟨I', E', h2⟩
  case nilCheck x =>
    have hx := ev x
    split at ho
    · rename_i r off he
      simp only [Tree.Out] at ho; subst ho
      rw [he] at hx
      generalize hv : a.eval x = vx at hx
      have hx0 := hx
      cases hx
      exact does_value (w' := w) (by simp [execOp, hop, hv]) ⟨I, E, hr.still hx0⟩
    · rename_i r s i off he
      simp only [Tree.Out] at ho; subst ho
      rw [he] at hx
      generalize hv : a.eval x = vx at hx
      have hx0 := hx
      cases hx
      exact does_value (w' := w) (by simp [execOp, hop, hv]) ⟨I, E, hr.still hx0⟩
    · rename_i t xs s i off he
      simp only [Tree.Out] at ho; subst ho
      rw [he] at hx
      generalize hv : a.eval x = vx at hx
      have hx0 := hx
      cases hx
      exact does_value (w' := w) (by simp [execOp, hop, hv]) ⟨I, E, hr.still hx0⟩
    · exact ho.elim
  case binOp op t x z ty =>
    exact pureV (s := do eqGuard op t x z (a.eval x) (a.eval z); Go.binOp op t (a.eval x) (a.eval z)) (by simp [execOp, hop]) ho (fun r h => aBin_ok (ev x) (ev z) h x z)
  case unOp op t x => exact pureV (s := Op.unary op (a.eval x)) (by simp [execOp, hop]) ho (fun r h => aUn_ok (ev x) h)
  case convert s d x => exact pureV (s := Go.convert s d (a.eval x)) (by simp [execOp, hop]) ho (fun r h => aConv_ok (ev x) h)
  case makeFunc fn first caps =>
    cases fn <;> simp only at ho <;> try exact ho.elim
    rename_i f
    have hm := mapA_ok ev caps.toList
    have hcaps : caps.map a.eval = (caps.toList.map a.eval).toArray := Array.ext' (by simp)
    split at ho
    · rename_i hf
      have hf' : first = #[] := by cases first; simp_all
      subst hf'
      split at ho
      · rename_i ht
        simp only [Tree.Out] at ho; subst ho
        refine does_value (w' := w) (v := .func (.func f) #[] (caps.toList.map a.eval).toArray) (by simp [execOp, hop, Instr.makeFunc, hcaps]) ⟨I, E, hr.still (.fn ht hm.len hm.at_)⟩
      · exact ho.elim
    · simp only [Tree.Out] at ho; subst ho
      have hm1 := mapA_ok ev first.toList
      have hfirst : first.map a.eval = (first.toList.map a.eval).toArray := Array.ext' (by simp)
      refine does_value (w' := w) (v := .func (.func f) (first.toList.map a.eval).toArray (caps.toList.map a.eval).toArray) (by simp [execOp, hop, Instr.makeFunc, hcaps, hfirst]) ⟨I, E, hr.still (.bfn hm1.len hm1.at_ hm.len hm.at_)⟩
  case makeSlice t l k =>
    have hb : E base = none := by
      obtain ⟨x, hx⟩ := aMakeR_base ho
      exact hb0 x hx
    exact effV (s := Instr.makeSlice t (a.eval l) (a.eval k)) (by simp [execOp, hop]) (aMakeR_ok hr hb (ev l) (ev k) hfree ho)
  case slice t x lo hi mx =>
    have opt : ∀ q : Option Operand, OptRep c.L I w E (q.map ρ) (q.map a.eval) := fun q => by
      cases q with
      | none => trivial
      | some q => exact ev q
    exact effV (s := Instr.sliceAt t (a.eval x) (lo.map a.eval) (hi.map a.eval) (mx.map a.eval)) (by simp [execOp, hop]) (aSlice2_ok hr (ev x) (opt lo) (opt hi) (opt mx) ho hfree)
  case makeMap t r =>
    cases r <;> simp only at ho <;> try exact ho.elim
    have hb : E base = none := by
      unfold aMakeMap at ho
      split at ho <;> try exact ho.elim
      split at ho <;> (simp only [Tree.Out] at ho; subst ho; exact hb0 _ (List.mem_singleton.2 rfl))
    exact effV (s := Instr.makeMap t none) (by simp [execOp, hop]) (aMakeMap_ok hr hb ho)
  case lookup t m k ok => exact pureV (s := Instr.lookup t (a.eval m) (a.eval k) ok) (by simp [execOp, hop]) ho (fun r h => aLookup_ok hr (ev m) (ev k) h)
  case mapUpdate t m k x =>
    obtain ⟨w', I', E', h1, h2⟩ := aUpdate_ok (base := base) hr (ev m) (ev k) (ev x) ho
    exact does_skip (w' := w') (by simp [execOp, hop, h1]) ⟨I', E', h2⟩
  case insert t m k x =>
    obtain ⟨w', I', E', h1, h2⟩ := aUpdate_ok (base := base) hr (ev m) (ev k) (ev x) ho
    exact does_skip (w' := w') (by simp [execOp, hop, h1]) ⟨I', E', h2⟩
  case fieldAddr s x f => exact pureV (s := Instr.fieldAt s (a.eval x) f) (by simp [execOp, hop]) ho (fun r h => aField_ok (ev x) h)
  case field s x f => exact pureV (s := Instr.field s (a.eval x) f) (by simp [execOp, hop]) ho (fun r h => aFieldV_ok (ev x) h)
  case indexAddr t x i => exact pureV (s := Instr.indexAt t (a.eval x) (a.eval i)) (by simp [execOp, hop]) ho (fun r h => aIndexAddrR_ok hr (ev x) (ev i) h)
  case index t x i => exact pureV (s := Instr.index t (a.eval x) (a.eval i)) (by simp [execOp, hop]) ho (fun r h => aIndex_ok (ev x) (ev i) h)
  case extract t i => exact pureV (s := Instr.extract (a.eval t) i) (by simp [execOp, hop]) ho (fun r h => aExtract_ok (ev t) h)
  case call cl =>
    obtain ⟨callee, args, ats⟩ := cl
    have hm := mapA_ok ev args.toList
    split at ho
    · rename_i b hc
      simp only at hc; subst hc
      simp only at ho
      have hargs : args.map a.eval = (args.toList.map a.eval).toArray := Array.ext' (by simp)
      unfold aBuiltin at ho
      split at ho
      · rename_i t x hats hxs
        rw [hxs] at hm
        obtain ⟨v, vs', hv, h1, h2⟩ := hm.inv_cons
        rw [h2.inv_nil] at hv
        refine pureV (s := Builtin.len_ ats o.type (args.map a.eval)) (by simp [execOp, hop, resolve, invoke, builtin]) ho (fun r h => ?_)
        rw [hargs, hv, show ats = #[t] from Array.ext' hats]
        exact aLenR_ok hr h1 h
      · rename_i t kt p q hats hxs
        rw [hxs] at hm
        obtain ⟨v, vs', hv, h1, h2⟩ := hm.inv_cons
        obtain ⟨u, us', hu, h3, h4⟩ := h2.inv_cons
        rw [hu, h4.inv_nil] at hv
        refine effV (s := Builtin.delete_ ats o.type (args.map a.eval)) (by simp [execOp, hop, resolve, invoke, builtin]) ?_
        rw [hargs, hv, show ats = #[t, kt] from Array.ext' hats]
        exact aDelete_ok hr h1 h3 ho
      · rename_i s x p q hats hxs
        rw [hxs] at hm
        obtain ⟨v, vs', hv, h1, h2⟩ := hm.inv_cons
        obtain ⟨u, us', hu, h3, h4⟩ := h2.inv_cons
        rw [hu, h4.inv_nil] at hv
        refine effV (s := Builtin.append_ ats o.type (args.map a.eval)) (by simp [execOp, hop, resolve, invoke, builtin]) ?_
        rw [hargs, hv, show ats = #[s, x] from Array.ext' hats]
        refine aAppend2_ok hr h1 h3 ho hfree (fun y' ho => ?_)
        unfold aAppend at ho
        split at ho <;> try exact ho.elim
        split at ho <;> try exact ho.elim
        split at ho <;> try exact ho.elim
        split at ho <;> try exact ho.elim
        split at ho <;> try exact ho.elim
        simp only [Tree.Out] at ho
        obtain ⟨_, rfl⟩ := ho
        exact ⟨_, List.mem_cons_of_mem _ (List.mem_singleton.2 rfl)⟩
      · rename_i t x hats hxs
        rw [hxs] at hm
        obtain ⟨v, vs', hv, h1, h2⟩ := hm.inv_cons
        rw [h2.inv_nil] at hv
        refine pureV (s := Builtin.cap_ ats o.type (args.map a.eval)) (by simp [execOp, hop, resolve, invoke, builtin]) ho (fun r h => ?_)
        rw [hargs, hv, show ats = #[t] from Array.ext' hats]
        exact aCap_ok h1 h
      · rename_i x p hxs
        rw [hxs] at hm
        obtain ⟨v, vs', hv, h1, h2⟩ := hm.inv_cons
        obtain ⟨u, us', hu, h3, h4⟩ := h2.inv_cons
        rw [hu, h4.inv_nil] at hv
        refine pureV (s := Builtin.min_ ats o.type (args.map a.eval)) (by simp [execOp, hop, resolve, invoke, builtin]) ho (fun r h => ?_)
        rw [hargs, hv]
        unfold aMinMax at h
        split at h
        · simp only [Tree.Out, if_true] at h; subst h; cases h1; cases h3
          exact ⟨_, by simp [Builtin.min_, Builtin.min2], .int⟩
        · exact h.elim
      · rename_i x p hxs
        rw [hxs] at hm
        obtain ⟨v, vs', hv, h1, h2⟩ := hm.inv_cons
        obtain ⟨u, us', hu, h3, h4⟩ := h2.inv_cons
        rw [hu, h4.inv_nil] at hv
        refine pureV (s := Builtin.max_ ats o.type (args.map a.eval)) (by simp [execOp, hop, resolve, invoke, builtin]) ho (fun r h => ?_)
        rw [hargs, hv]
        unfold aMinMax at h
        split at h
        · simp only [Tree.Out, Bool.false_eq_true, if_false] at h; subst h; cases h1; cases h3
          exact ⟨_, by simp [Builtin.max_, Builtin.max2], .int⟩
        · exact h.elim
      · exact ho.elim
    · rename_i f hc
      simp only at hc; subst hc
      refine callV (f := f) (vals := args.toList.map a.eval) ?_ hm ho
      have hargs : args.map a.eval = (args.toList.map a.eval).toArray := Array.ext' (by simp)
      simp [execOp, hop, resolve, Act.eval, Deferred.ofValue, invoke, hargs]
    · rename_i t hc
      simp only at hc; subst hc
      split at ho
      · rename_i f fs caps hn
        have hev := ev (.tmp t)
        simp only [hn] at hev
        generalize hv : a.eval (.tmp t) = vf at hev
        cases hev with
        | fn ht hl hh => cases ht
        | bfn hl hh hl' hh' =>
          rename_i us vs
          refine callV (f := f) (vals := us ++ args.toList.map a.eval ++ vs) ?_ ((Reps.append ⟨hl, hh⟩ hm).append ⟨hl', hh'⟩) ho
          have hargs : us.toArray ++ (args.map a.eval ++ vs.toArray) = (us ++ (args.toList.map a.eval ++ vs)).toArray := by simp
          simp [execOp, hop, resolve, hv, Deferred.ofValue, invoke]
          rw [hargs]
      · rename_i f caps hno hn
        have hev := ev (.tmp t)
        simp only [hn] at hev
        generalize hv : a.eval (.tmp t) = vf at hev
        cases hev with
        | bfn hl hh hl' hh' => exact absurd rfl (hno _ _)
        | fn ht hl hh =>
          rename_i vs
          refine callV (f := f) (vals := args.toList.map a.eval ++ vs) ?_ (hm.append ⟨hl, hh⟩) ho
          have hargs : args.map a.eval ++ vs.toArray = (args.toList.map a.eval ++ vs).toArray := by simp
          simp [execOp, hop, resolve, hv, Deferred.ofValue, invoke, ← hargs]
      · exact ho.elim
    · exact ho.elim
end proofs
end Go.Ax
end

/- A verified symbolic executor, part 11: regions in the text's order, code without a told loop, calls carried out in place. Over any program; the facts on its types are given with it. -/
section
set_option linter.unusedVariables false
set_option linter.unusedSimpArgs false
namespace Go.Ax
variable {El : TypeId → Type}

structure St (El : TypeId → Type) where
  slots : List (AVal El)
  res : List (Res El)

def setF : List (AVal El) → Nat → AVal El → List (AVal El)
  | [], _, _ => []
  | _ :: l, 0, v => v :: l
  | a :: l, n + 1, v => a :: setF l n v
theorem setF_eq (l : List (AVal El)) (n : Nat) (v : AVal El) : setF l n v = l.set n v := by
  induction l generalizing n with
  | nil => rfl
  | cons a l ih => cases n <;> simp [setF, ih]

theorem setF_same {l : List (AVal El)} {n : Nat} {v : AVal El} (h : nth l n = v) : setF l n v = l := by
  induction l generalizing n with
  | nil => rfl
  | cons a l ih => cases n with
    | zero => simp [nth] at h; subst h; rfl
    | succ n => simp [nth] at h; simp [setF, ih h]
/-- A slot that was asked for its truth is known from there on. -/
def setX (slots : List (AVal El)) (x : Operand) (b : Bool) : List (AVal El) := match x with
  | .tmp t => setF slots t (.bool b)
  | _ => slots

def setT (slots : List (AVal El)) (dst : Option Tmp) (v : AVal El) : List (AVal El) :=
  match dst with
  | some d => setF slots d v
  | none => slots

def dstOf : List Oper → Nat → Option Tmp
  | [], _ => none
  | o :: _, 0 => o.dst
  | _ :: l, n + 1 => dstOf l n

def lenR : List (Res El) → Nat
  | [] => 0
  | _ :: l => lenR l + 1
theorem lenR_eq (l : List (Res El)) : lenR l = l.length := by
  induction l with
  | nil => rfl
  | cons a l ih => simp [lenR, ih]

/-- The same number, looked at. -/
def forceN {X : Sort _} : Nat → (Nat → X) → X
  | 0, k => k 0
  | n + 1, k => k (n + 1)
theorem forceN_eq {X : Sort _} (n : Nat) (k : Nat → X) : forceN n k = k n := by cases n <;> rfl
mutual
/-- The same value, looked at through and through. -/
def forceA {X : Type} : AVal El → (AVal El → X) → X
  | .top, k => k .top
  | .bool b, k => k (.bool b)
  | .int i n, k => k (.int i n)
  | .str s, k => k (.str s)
  | .nilp, k => k .nilp
  | .nilf, k => k .nilf
  | .nilm, k => k .nilm
  | .nils, k => k .nils
  | .anyb, k => k .anyb
  | .ptr r o, k => forceN r fun r => forceN o fun o => k (.ptr r o)
  | .eptr r sz i o, k => forceN r fun r => k (.eptr r sz i o)
  | .lptr t xs sz i o, k => k (.lptr t xs sz i o)
  | .cs r o n, k => forceN r fun r => forceN o fun o => forceN n fun n => k (.cs r o n)
  | .fn f l, k => forceL l fun l => k (.fn f l)
  | .list t xs, k => k (.list t xs)
  | .vec r, k => forceN r fun r => k (.vec r)
  | .mapr r, k => forceN r fun r => k (.mapr r)
  | .agg l, k => forceL l fun l => k (.agg l)
  | .tup l, k => forceL l fun l => k (.tup l)
def forceL {X : Type} : List (AVal El) → (List (AVal El) → X) → X
  | [], k => k []
  | a :: l, k => forceA a fun a => forceL l fun l => k (a :: l)
end
mutual
theorem forceA_eq {X : Type} : ∀ (a : AVal El) (k : AVal El → X), forceA a k = k a
  | .top, k => by simp only [forceA]
  | .bool b, k => by simp only [forceA]
  | .int i n, k => by simp only [forceA]
  | .str s, k => by simp only [forceA]
  | .nilp, k => by simp only [forceA]
  | .nilf, k => by simp only [forceA]
  | .nilm, k => by simp only [forceA]
  | .nils, k => by simp only [forceA]
  | .anyb, k => by simp only [forceA]
  | .ptr r o, k => by simp only [forceA, forceN_eq]
  | .eptr r sz i o, k => by simp only [forceA, forceN_eq]
  | .lptr t xs sz i o, k => by simp only [forceA]
  | .cs r o n, k => by simp only [forceA, forceN_eq]
  | .fn f l, k => by simp only [forceA]; exact forceL_eq l _
  | .list t xs, k => by simp only [forceA]
  | .vec r, k => by simp only [forceA, forceN_eq]
  | .mapr r, k => by simp only [forceA, forceN_eq]
  | .agg l, k => by simp only [forceA]; exact forceL_eq l _
  | .tup l, k => by simp only [forceA]; exact forceL_eq l _
theorem forceL_eq {X : Type} : ∀ (l : List (AVal El)) (k : List (AVal El) → X), forceL l k = k l
  | [], k => by simp only [forceL]
  | a :: l, k => by simp only [forceL]; rw [forceA_eq a]; exact forceL_eq l _
end
def forceR {X : Type} : List (Res El) → (List (Res El) → X) → X
  | [], k => k []
  | .dead :: l, k => forceR l fun l => k (.dead :: l)
  | .cells t cs :: l, k => forceL cs fun cs => forceR l fun l => k (.cells t cs :: l)
  | .vec t xs :: l, k => forceR l fun l => k (.vec t xs :: l)
  | .mapS i t m :: l, k => forceR l fun l => k (.mapS i t m :: l)
  | .mapC cs :: l, k => forceL cs fun cs => forceR l fun l => k (.mapC cs :: l)
  | .recs t xs i nm :: l, k => forceL nm fun nm => forceR l fun l => k (.recs t xs i nm :: l)
theorem forceR_eq {X : Type} (l : List (Res El)) (k : List (Res El) → X) : forceR l k = k l := by
  induction l generalizing k with
  | nil => rfl
  | cons x l ih =>
    cases x with
    | dead => simp only [forceR]; exact ih _
    | cells t cs => simp only [forceR]; rw [forceL_eq]; exact ih _
    | vec t xs => simp only [forceR]; exact ih _
    | mapS i t m => simp only [forceR]; exact ih _
    | mapC cs => simp only [forceR]; rw [forceL_eq]; exact ih _
    | recs t xs i nm => simp only [forceR]; rw [forceL_eq]; exact ih _
def forceSt {X : Type} (st : St El) (k : St El → X) : X := forceL st.slots fun sl => forceR st.res fun R => k ⟨sl, R⟩
theorem forceSt_eq {X : Type} (st : St El) (k : St El → X) : forceSt st k = k st := by
  unfold forceSt; rw [forceL_eq, forceR_eq]

/-- The same value, its head looked at. -/
def shA {X : Type} : AVal El → (AVal El → X) → X
  | .top, k => k .top
  | .bool b, k => k (.bool b)
  | .int i n, k => k (.int i n)
  | .str s, k => k (.str s)
  | .nilp, k => k .nilp
  | .nilf, k => k .nilf
  | .nilm, k => k .nilm
  | .nils, k => k .nils
  | .anyb, k => k .anyb
  | .ptr r o, k => forceN r fun r => forceN o fun o => k (.ptr r o)
  | .eptr r sz i o, k => forceN r fun r => k (.eptr r sz i o)
  | .lptr t xs sz i o, k => k (.lptr t xs sz i o)
  | .cs r o n, k => k (.cs r o n)
  | .fn f l, k => k (.fn f l)
  | .list t xs, k => k (.list t xs)
  | .vec r, k => forceN r fun r => k (.vec r)
  | .mapr r, k => k (.mapr r)
  | .agg l, k => k (.agg l)
  | .tup l, k => k (.tup l)
theorem shA_eq {X : Type} (a : AVal El) (k : AVal El → X) : shA a k = k a := by
  cases a <;> simp only [shA, forceN_eq]
def shL {X : Type} : List (AVal El) → (List (AVal El) → X) → X
  | [], k => k []
  | a :: l, k => shA a fun a => shL l fun l => k (a :: l)
theorem shL_eq {X : Type} (l : List (AVal El)) (k : List (AVal El) → X) : shL l k = k l := by
  induction l generalizing k with
  | nil => rfl
  | cons a l ih => simp only [shL]; rw [shA_eq]; exact ih _
/-- The heads of the slots looked at, where another guard begins. -/
def shSt {X : Type} (b : Bool) (st : St El) (k : St El → X) : X := match b with
  | true => k st
  | false => shL st.slots fun sl => k ⟨sl, st.res⟩
theorem shSt_eq {X : Type} (b : Bool) (st : St El) (k : St El → X) : shSt b st k = k st := by
  cases b
  · exact shL_eq _ _
  · rfl
def sameG : Option Nat → Nat → Bool
  | some a, b => Nat.beq a b
  | none, _ => false

section defs
variable (c : Cx El) (Γ : FuncId → Option (GSpec El))

/-- Operations in the text's order. 'all': the region's operations, for the guards. -/
def aregion (all : List Oper) : List Oper → Option Nat → St El → Tree (St El)
  | [], _, st => .leaf st
  | o :: rest, pg, st =>
    match o.guard with
    | none => (aop c Γ st.res (lenR st.res) (evA st.slots) o.op).bind fun y => aregion all rest none ⟨setT st.slots o.dst y.1, updR st.res y.2⟩
    | some (g, want) => shSt (sameG pg g) st fun st => match dstOf all g with
      | some t => match nth st.slots t with
        | .bool b => .node (b == want)
            ((aop c Γ st.res (lenR st.res) (evA (setF st.slots t (.bool want))) o.op).bind fun y => aregion all rest (some g) ⟨setT (setF st.slots t (.bool want)) o.dst y.1, updR st.res y.2⟩)
            (aregion all rest (some g) ⟨setT (setF st.slots t (.bool !want)) o.dst (.tup []), st.res⟩)
        | .tup l => match l with
          | [] => aregion all rest (some g) ⟨setT st.slots o.dst (.tup []), st.res⟩
          | _ => .fail
        | _ => .fail
      | none => .fail

/-- How a piece of code is left. -/
inductive AEx where
  | normal
  | exit (id : Nat)
  | ret

def AEx.of : AEx → Exit
  | .normal => .normal
  | .exit id => .exit id
  | .ret => .ret
end defs

/-- The abstract state stands for a frame and a world. -/
structure HoldS (c : Cx El) (I : Nat → Prop) (E : Env) (st : St El) (a : Act) (w : World) : Prop where
  hr : HR c.L I w E st.res
  slots : SlotsOk c I w E st.slots a
  free : FreeFrom E (lenR st.res)
  nodefer : a.defers = []

theorem lenR_setR (l : List (Res El)) (n : Nat) (x : Res El) : lenR l ≤ lenR (setR l n x) ∧ n < lenR (setR l n x) := by
  induction l generalizing n with
  | nil =>
    induction n with
    | zero => simp [setR, lenR]
    | succ n ih => simp [setR, lenR] at ih ⊢; omega
  | cons a l ih =>
    cases n with
    | zero => simp [setR, lenR]
    | succ n => have := ih n; simp [setR, lenR]; omega
theorem lenR_updR (R : List (Res El)) (upd : List (Nat × Res El)) : lenR R ≤ lenR (updR R upd) ∧ ∀ r x, (r, x) ∈ upd → r < lenR (updR R upd) := by
  induction upd generalizing R with
  | nil => exact ⟨Nat.le_refl _, fun r x h => by simp at h⟩
  | cons u us ih =>
    obtain ⟨n, y⟩ := u
    obtain ⟨h1, h2⟩ := ih (setR R n y)
    have h3 := lenR_setR R n y
    refine ⟨Nat.le_trans h3.1 h1, fun r x h => ?_⟩
    rcases List.mem_cons.1 h with h | h
    · cases h; exact Nat.lt_of_lt_of_le h3.2 h1
    · exact h2 r x h

section proofs
variable {I : Nat → Prop} {E : Env} {w w' : World} {c : Cx El} {Γ : FuncId → Option (GSpec El)}

theorem slots_put {slots : List (AVal El)} {a : Act} {dst : Option Tmp} {x : AVal El} {v : Value} (h : SlotsOk c I w E slots a) (hr : Rep c.L I w E x v) : SlotsOk c I w E (setT slots dst x) (a.put dst v) := by
  cases dst with
  | none => exact h
  | some d =>
    unfold SlotsOk at *
    simp only [setT, setF_eq, Act.put, Array.toList_setIfInBounds]
    exact Reps.set h d hr

theorem put_defers (a : Act) (dst : Option Tmp) (v : Value) : (a.put dst v).defers = a.defers := by cases dst <;> rfl

theorem HoldS.step {st : St El} {a : Act} (h : HoldS c I E st a w) {y : Eff El} {v : Value} {I' : Nat → Prop} {E' : Env} (hp : Post c.L I E st.res w (lenR st.res) y.2 y.1 v w' I' E') (dst : Option Tmp) :
    HoldS c I' E' ⟨setT st.slots dst y.1, updR st.res y.2⟩ (a.put dst v) w' := by
  refine ⟨hp.hr, slots_put (h.hr.keepReps hp.ext h.slots) hp.rep, fun r hr => ?_, by rw [put_defers]; exact h.nodefer⟩
  have hl := lenR_updR st.res y.2
  simp only at hr
  rw [hp.names r (fun x hx => absurd (hl.2 r x hx) (by omega))]
  exact h.free r (by omega)

theorem dstOf_eq (l : List Oper) (n : Nat) : dstOf l n = (l[n]?).bind (·.dst) := by
  induction l generalizing n with
  | nil => simp [dstOf]
  | cons o l ih => cases n <;> simp [dstOf, ih]

theorem rep_undef {E : Env} : Rep c.L I w E (.tup []) undef := .tup (vs := []) rfl (fun i c v hc => by simp at hc)
theorem yielded_no {ops : Array Oper} {slots : List (AVal El)} {a : Act} {g : Nat} {t : Tmp} (hs : SlotsOk c I w E slots a) (ht : dstOf ops.toList g = some t) (hb : nth slots t = .tup []) :
    yielded ops a.tmps g = none := by
  rw [dstOf_eq] at ht
  have hg : (ops[g]?).bind (·.dst) = some t := by simpa using ht
  have hlt : t < slots.length := by
    rw [nth_eq, List.getD_eq_getElem?_getD] at hb
    rcases Nat.lt_or_ge t slots.length with h | h
    · exact h
    · rw [List.getElem?_eq_none h] at hb; simp at hb
  have hlt' : t < a.tmps.size := Nat.lt_of_lt_of_eq hlt (Reps.len hs)
  have hr := hs.getD t undef
  rw [hb] at hr
  unfold yielded
  rw [hg]
  simp only [Option.bind_some]
  have he : a.tmps[t]? = some a.tmps[t] := Array.getElem?_eq_getElem hlt'
  rw [he]
  have he2 : a.tmps.toList.getD t undef = a.tmps[t] := by simp [List.getD_eq_getElem?_getD, he]
  rw [he2] at hr
  generalize a.tmps[t] = v at hr
  cases hr
  rfl
theorem yielded_of {ops : Array Oper} {slots : List (AVal El)} {a : Act} {g : Nat} {t : Tmp} {b : Bool} (hs : SlotsOk c I w E slots a) (ht : dstOf ops.toList g = some t) (hb : nth slots t = .bool b) :
    yielded ops a.tmps g = some b := by
  rw [dstOf_eq] at ht
  have hg : (ops[g]?).bind (·.dst) = some t := by simpa using ht
  have hlt : t < slots.length := by
    rw [nth_eq, List.getD_eq_getElem?_getD] at hb
    rcases Nat.lt_or_ge t slots.length with h | h
    · exact h
    · rw [List.getElem?_eq_none h] at hb; simp at hb
  have hlt' : t < a.tmps.size := Nat.lt_of_lt_of_eq hlt (Reps.len hs)
  have hr := hs.getD t undef
  rw [hb] at hr
  unfold yielded
  rw [hg]
  simp only [Option.bind_some, Array.getElem?_eq_getElem hlt']
  have he : a.tmps.toList.getD t undef = a.tmps[t] := by
    rw [List.getD_eq_getElem?_getD, Array.getElem?_toList, Array.getElem?_eq_getElem hlt']; rfl
  rw [he] at hr
  generalize a.tmps[t] = v at hr
  cases hr
  rfl

/-- No old name is given anew; no name is lost. -/
structure Names (E : Env) (st : St El) (E' : Env) (st' : St El) : Prop where
  same : ∀ r, r < lenR st.res → E' r = E r
  len : lenR st.res ≤ lenR st'.res
theorem Names.refl {E : Env} {st : St El} : Names E st E st := ⟨fun _ _ => rfl, Nat.le_refl _⟩
theorem Names.trans {E E1 E2 : Env} {st st1 st2 : St El} (h : Names E st E1 st1) (h' : Names E1 st1 E2 st2) : Names E st E2 st2 :=
  ⟨fun r hr => (h'.same r (Nat.lt_of_lt_of_le hr h.len)).trans (h.same r hr), Nat.le_trans h.len h'.len⟩

/-- Slots that an operation list does not write. -/
def Keeps (l : List Oper) (a a' : Act) : Prop := a'.tmps.size = a.tmps.size ∧ ∀ t, (∀ o ∈ l, o.dst ≠ some t) → a'.tmps[t]? = a.tmps[t]?

theorem put_keeps (a : Act) (o : Oper) (v : Value) {t : Tmp} (h : o.dst ≠ some t) : (a.put o.dst v).tmps[t]? = a.tmps[t]? := by
  cases hd : o.dst with
  | none => rfl
  | some d =>
    have : d ≠ t := fun e => h (by rw [hd, e])
    simp [Act.put, Array.getElem?_setIfInBounds_ne this]
theorem put_size (a : Act) (dst : Option Tmp) (v : Value) : (a.put dst v).tmps.size = a.tmps.size := by cases dst <;> simp [Act.put]

theorem aregion_ok (hΓ : ∀ f g, Γ f = some g → GOk c f g) {ops : Array Oper} {Q : Exit → Act → World → Prop} {l : List Oper} {pg : Option Nat} {st st' : St El} {a : Act} (ho : (aregion c Γ ops.toList l pg st).Out st') (h : HoldS c I E st a w)
    (hQ : ∀ a' w' I' E', Ext I E st.res w I' E' st'.res w' → HoldS c I' E' st' a' w' → Keeps l a a' → Names E st E' st' → Q .normal a' w') : wpList c.P ops Q l a w := by
  induction l generalizing st a I E w pg with
  | nil =>
    simp only [aregion, Tree.Out] at ho; subst ho
    exact hQ a w I E Ext.refl h ⟨rfl, fun _ _ => rfl⟩ Names.refl
  | cons o rest ih =>
    have run : ∀ (pg' : Option Nat) (ho : ((aop c Γ st.res (lenR st.res) (evA st.slots) o.op).bind fun y => aregion c Γ ops.toList rest pg' ⟨setT st.slots o.dst y.1, updR st.res y.2⟩).Out st'),
        o.wp c.P a w (wpList c.P ops Q rest) Q := by
      intro pg' ho
      rw [Tree.out_bind] at ho
      obtain ⟨y, h1, h2⟩ := ho
      refine aop_ok hΓ (evA_ok h.slots) h.hr h1 (fun r x _ hb => h.free r hb) _ _ ?_
      rintro v w' ⟨I', E', hp⟩
      have hnm : Names E st E' (⟨setT st.slots o.dst y.1, updR st.res y.2⟩ : St El) := ⟨fun r hr => hp.names r (fun _ _ => hr), (lenR_updR st.res y.2).1⟩
      refine ih h2 (h.step hp o.dst) (fun a' w'' I'' E'' hx hs hk hn => hQ a' w'' I'' E'' (hp.ext.trans hx) hs ?_ (hnm.trans hn))
      refine ⟨hk.1.trans (put_size _ _ _), fun t ht => (hk.2 t (fun o' ho' => ht o' (List.mem_cons_of_mem _ ho'))).trans (put_keeps a o v (ht o (List.mem_cons_self ..)))⟩
    simp only [aregion] at ho
    unfold wpList
    split at ho
    · rename_i hg
      rw [if_pos (by simp [Region.wanted, hg])]
      exact .inl (run _ ho)
    · rename_i g want hg
      rw [shSt_eq] at ho
      split at ho
      · rename_i t ht
        split at ho
        · rename_i b hb
          have hy := yielded_of h.slots ht hb
          simp only [Tree.Out] at ho
          have hsame : ∀ q, b = q → setF st.slots t (.bool q) = st.slots := fun q hq => setF_same (by rw [hb, hq])
          rcases ho with ⟨hbw, ho⟩ | ⟨hbw, ho⟩
          · rw [hsame want (by simpa using hbw)] at ho
            rw [if_pos (by simp only [Region.wanted, hg, hy]; simpa using hbw)]
            exact .inl (run _ ho)
          · rw [hsame (!want) (by cases b <;> cases want <;> simp_all)] at ho
            rw [if_neg (by simp only [Region.wanted, hg, hy]; simpa using hbw)]
            have hstep : HoldS c I E ⟨setT st.slots o.dst (.tup []), st.res⟩ (a.put o.dst undef) w :=
              ⟨h.hr, slots_put h.slots rep_undef, h.free, by rw [put_defers]; exact h.nodefer⟩
            refine ih ho hstep (fun a' w'' I'' E'' hx hs hk hn => hQ a' w'' I'' E'' hx hs ?_ ⟨hn.same, hn.len⟩)
            refine ⟨hk.1.trans (put_size _ _ _), fun t ht => (hk.2 t (fun o' ho' => ht o' (List.mem_cons_of_mem _ ho'))).trans (put_keeps a o undef (ht o (List.mem_cons_self ..)))⟩
        · split at ho
          · rename_i hb
            have hy := yielded_no h.slots ht hb
            rw [if_neg (by simp [Region.wanted, hg, hy])]
            have hstep : HoldS c I E ⟨setT st.slots o.dst (.tup []), st.res⟩ (a.put o.dst undef) w :=
              ⟨h.hr, slots_put h.slots rep_undef, h.free, by rw [put_defers]; exact h.nodefer⟩
            refine ih ho hstep (fun a' w'' I'' E'' hx hs hk hn => hQ a' w'' I'' E'' hx hs ?_ ⟨hn.same, hn.len⟩)
            refine ⟨hk.1.trans (put_size _ _ _), fun t ht => (hk.2 t (fun o' ho' => ht o' (List.mem_cons_of_mem _ ho'))).trans (put_keeps a o undef (ht o (List.mem_cons_self ..)))⟩
          · exact ho.elim
        · exact ho.elim
      · exact ho.elim
end proofs
end Go.Ax
end

/- A verified symbolic executor, part 12: a region that draws the order of its operations: carried out once, in the text's order, where no two operations that may change places meet. Over any program; the facts on its types are given with it. -/
section
set_option linter.unusedVariables false
set_option linter.unusedSimpArgs false
namespace Go.Ax
variable {El : TypeId → Type}

def natAt : List Nat → Nat → Nat
  | [], _ => 0
  | a :: _, 0 => a
  | _ :: l, n + 1 => natAt l n

/-- The operations that an operation must wait for, as bits, out of its edges and the bits of those before it. -/
def ancOf (prev : List Nat) : List Edge → Nat
  | [] => 0
  | e :: es => if Region.binds .any e = true then (2 ^ e.on ||| natAt prev e.on) ||| ancOf prev es else ancOf prev es
def ancsFrom : List Oper → List Nat → List Nat
  | [], acc => acc
  | o :: rest, acc => ancsFrom rest (acc ++ [ancOf acc o.after.toList])
def ancs (all : List Oper) : List Nat := ancsFrom all []

/-- What one operation came to. -/
structure Ent (El : TypeId → Type) where
  val : AVal El
  upd : List (Nat × Res El)
  base : Nat

def entAt : List (Ent El) → Nat → Option (Ent El)
  | [], _ => none
  | a :: _, 0 => some a
  | _ :: l, n + 1 => entAt l n
theorem entAt_eq (l : List (Ent El)) (n : Nat) : entAt l n = l[n]? := by
  induction l generalizing n with
  | nil => simp [entAt]
  | cons a l ih => cases n <;> simp [entAt, ih]

/-- The operation that writes a slot. -/
def writerOf : List Oper → Tmp → Nat → Option Nat
  | [], _, _ => none
  | o :: rest, t, k => match o.dst with
    | some d => if d = t then some k else writerOf rest t (k + 1)
    | none => writerOf rest t (k + 1)

section defs
variable (c : Cx El) (Γ : FuncId → Option (GSpec El))

/-- What operation 'j' may be sure to find in a slot. -/
def evM (all : List Oper) (an : List Nat) (slots : List (AVal El)) (tr : List (Ent El)) (j : Nat) : Operand → AVal El
  | .tmp t => match writerOf all t 0 with
    | none => nth slots t
    | some i => if (natAt an j).testBit i = true then match entAt tr i with
        | some e => e.val
        | none => .top
      else if i = j ∨ (natAt an i).testBit j = true then nth slots t else .top
  | .const v => absV v
  | .func f => .fn f []
  | .global _ => .top

/-- The resources behind some of the operations. -/
def resF (m : Nat → Bool) : List (Ent El) → Nat → List (Res El) → List (Res El)
  | [], _, R => R
  | e :: es, k, R => resF m es (k + 1) (if m k = true then updR R e.upd else R)

def isDead : Res El → Bool
  | .dead => true
  | _ => false

/-- Names that are turned stand for something; the others are new. -/
def updOk (R : List (Res El)) (base : Nat) : List (Nat × Res El) → Bool
  | [] => true
  | (r, _) :: us => (decide (base ≤ r) || !isDead (getR R r)) && updOk R base us

def maxUpd : Nat → List (Nat × Res El) → Nat
  | m, [] => m
  | m, (r, _) :: us => maxUpd (if r < m then m else r + 1) us

/-- What a guard has told. -/
def setV : List (Ent El) → Nat → Bool → List (Ent El)
  | [], _, _ => []
  | e :: l, 0, q => ⟨.bool q, e.upd, e.base⟩ :: l
  | e :: l, n + 1, q => e :: setV l n q
def setTr (all : List Oper) (an : List Nat) (j : Nat) (t : Tmp) (tr : List (Ent El)) (q : Bool) : List (Ent El) := match writerOf all t 0 with
  | some i => match (natAt an j).testBit i with
    | true => setV tr i q
    | false => tr
  | none => tr

def traceD (all : List Oper) (an : List Nat) (st : St El) : List Oper → Nat → Nat → List (Ent El) → Tree (List (Ent El))
  | [], _, _, tr => .leaf tr
  | o :: rest, j, base, tr =>
    let R := resF (natAt an j).testBit tr 0 st.res
    let run := fun (tr : List (Ent El)) => (aop c Γ R base (evM all an st.slots tr j) o.op).bind fun y =>
      if updOk R base y.2 = true then traceD all an st rest (j + 1) (maxUpd base y.2) (tr ++ [⟨y.1, y.2, base⟩]) else .fail
    match o.guard with
    | none => run tr
    | some (g, want) => match dstOf all g with
      | some t => match evM all an st.slots tr j (.tmp t) with
        | .bool b => .node (b == want) (run (setTr all an j t tr want)) (traceD all an st rest (j + 1) base (setTr all an j t tr (!want) ++ [⟨.top, [], base⟩]))
        | _ => .fail
      | none => .fail

/-- Operations that look at resources or name new ones. -/
def touches : Op → Bool
  | .move _ | .assign _ | .pick .. | .build .. | .binOp .. | .unOp .. | .convert .. | .makeFunc .. | .fieldAddr .. | .field .. | .index .. | .extract .. | .nilCheck _ => false
  | _ => true

def turns (e : Ent El) : Bool := e.upd.any fun u => decide (u.1 < e.base)

def lenA : List (AVal El) → Nat
  | [] => 0
  | _ :: l => lenA l + 1
theorem lenA_eq (l : List (AVal El)) : lenA l = l.length := by
  induction l with
  | nil => rfl
  | cons a l ih => simp [lenA, ih]

/-- An operation that looks at no more of a vector than its length. -/
def softE : Op → AVal El → Bool
  | .indexAddr .., .eptr .. => true
  | _, _ => false
/-- The resources that an operation looks at, where that is plain. -/
def softL (all : List Oper) (an : List Nat) (slots : List (AVal El)) (tr : List (Ent El)) (j : Nat) : Op → Option (List Nat)
  | .load _ x => match evM all an slots (tr.take j) j x with
    | .ptr r _ => some [r]
    | .lptr _ _ _ _ _ => some []
    | _ => none
  | .alloc _ => match tr[j]? with
    | some e => some [e.base]
    | none => none
  | .box _ _ => match tr[j]? with
    | some e => some [e.base]
    | none => none
  | .indexAddr _ x _ => match evM all an slots (tr.take j) j x with
    | .ptr _ _ => some []
    | .cs _ _ _ => some []
    | .list _ _ => some []
    | _ => none
  | .call cl => match cl.callee with
    | .builtin .len => match cl.args.toList with
      | [x] => match evM all an slots (tr.take j) j x with
        | .list _ _ => some []
        | .nils => some []
        | .cs _ _ _ => some []
        | _ => none
      | _ => none
    | _ => none
  | _ => none
def notIn (r : Nat) : List Nat → Bool
  | [] => true
  | a :: l => !Nat.beq r a && notIn r l
def spares (e : Ent El) (rs : List Nat) : Bool := e.upd.all fun u => notIn u.1 rs
theorem notIn_ne {r : Nat} {rs : List Nat} (h : notIn r rs = true) : r ∉ rs := by
  induction rs with
  | nil => simp
  | cons a l ih =>
    simp only [notIn, Bool.and_eq_true] at h
    have h1 : Nat.beq r a = false := by simpa using h.1
    intro hm
    rcases List.mem_cons.1 hm with rfl | hm
    · rw [Nat.beq_refl] at h1; cases h1
    · exact ih h.2 hm
def isVecR : Res El → Bool
  | .vec _ _ => true
  | _ => false
/-- All that is turned was a vector at the outset. -/
def vecTurns (R : List (Res El)) (e : Ent El) : Bool := e.upd.all fun u => decide (e.base ≤ u.1) || isVecR (getR R u.1)
/-- A vector stays one, of one length. -/
def lenU (R : List (Res El)) : List (Nat × Res El) → Prop
  | [] => True
  | (r, x) :: us => match getR R r with
    | .vec t xs => (match x with
      | .vec t' ys => t' = t ∧ ys.length = xs.length
      | _ => False) ∧ lenU R us
    | _ => lenU R us
def lens (R : List (Res El)) : List (Ent El) → Prop
  | [] => True
  | e :: es => match e.upd with
    | [] => lens R es
    | us => lenU R us ∧ lens R es

/-- No slot is written twice; edges point back; an operation that turns a resource can't change places with one that looks at any. -/
def okD (soft : Bool) (R : List (Res El)) (slots : List (AVal El)) (all : List Oper) (an : List Nat) (tr : List (Ent El)) : Bool :=
  (List.range all.length).all fun j => match all[j]?, tr[j]? with
    | some o, some e =>
      (o.after.toList.all fun d => !Region.binds .any d || decide (d.on < j)) && (e.upd.isEmpty || touches o.op) && (match o.dst with | some d => decide (d < lenA slots) | none => true) &&
      (List.range all.length).all fun i => i == j || match all[i]? with
        | some p =>
          (match o.dst, p.dst with | some d, some d' => decide (d ≠ d') | _, _ => true) &&
          (!turns e || !touches p.op || (natAt an j).testBit i || (natAt an i).testBit j || (soft && (match tr[i]? with | some q => softE p.op q.val | none => false) && vecTurns R e) || (match softL all an slots tr i p.op with | some r => spares e r | none => false))
        | none => true
    | _, _ => false

def finSlots : List Oper → List (Ent El) → List (AVal El) → List (AVal El)
  | o :: os, e :: es, l => finSlots os es (setT l o.dst e.val)
  | _, _, l => l
def finRes : List (Ent El) → List (Res El) → List (Res El)
  | [], R => R
  | e :: es, R => finRes es (updR R e.upd)

def aregionD (all : List Oper) (st : St El) : Tree (St El) :=
  (traceD c Γ all (ancs all) st all 0 (lenR st.res) []).bind fun tr =>
    if okD false st.res st.slots all (ancs all) tr = true then .leaf ⟨finSlots all tr st.slots, finRes tr st.res⟩
    else if okD true st.res st.slots all (ancs all) tr = true then .need (lens st.res tr) (.leaf ⟨finSlots all tr st.slots, finRes tr st.res⟩) else .fail
end defs

section basics
theorem natAt_eq (l : List Nat) (n : Nat) : natAt l n = l.getD n 0 := by
  induction l generalizing n with
  | nil => simp [natAt]
  | cons a l ih => cases n <;> simp [natAt, ih]

theorem ancOf_bit {prev : List Nat} {es : List Edge} {i : Nat} : (ancOf prev es).testBit i = true ↔ ∃ e ∈ es, Region.binds .any e = true ∧ (i = e.on ∨ (natAt prev e.on).testBit i = true) := by
  induction es with
  | nil => simp [ancOf]
  | cons e es ih =>
    simp only [ancOf]
    split
    · rename_i hb
      simp only [Nat.testBit_or, Nat.testBit_two_pow, Bool.or_eq_true, ih, decide_eq_true_eq]
      constructor
      · rintro ((h | h) | ⟨e', h1, h2, h3⟩)
        · exact ⟨e, List.mem_cons_self .., hb, .inl h.symm⟩
        · exact ⟨e, List.mem_cons_self .., hb, .inr h⟩
        · exact ⟨e', List.mem_cons_of_mem _ h1, h2, h3⟩
      · rintro ⟨e', h1, h2, h3⟩
        rcases List.mem_cons.1 h1 with rfl | h1
        · rcases h3 with h3 | h3
          · exact .inl (.inl h3.symm)
          · exact .inl (.inr h3)
        · exact .inr ⟨e', h1, h2, h3⟩
    · rename_i hb
      rw [ih]
      constructor
      · rintro ⟨e', h1, h2, h3⟩
        exact ⟨e', List.mem_cons_of_mem _ h1, h2, h3⟩
      · rintro ⟨e', h1, h2, h3⟩
        rcases List.mem_cons.1 h1 with rfl | h1
        · exact absurd h2 hb
        · exact ⟨e', h1, h2, h3⟩

theorem ancsFrom_spec (l : List Oper) (acc : List Nat) : ∃ r, ancsFrom l acc = acc ++ r ∧ r.length = l.length ∧ ∀ k o, l[k]? = some o → (acc ++ r).getD (acc.length + k) 0 = ancOf ((acc ++ r).take (acc.length + k)) o.after.toList := by
  induction l generalizing acc with
  | nil => exact ⟨[], by simp [ancsFrom], rfl, fun k o h => by simp at h⟩
  | cons o l ih =>
    obtain ⟨r, h1, h2, h3⟩ := ih (acc ++ [ancOf acc o.after.toList])
    refine ⟨ancOf acc o.after.toList :: r, by simp [ancsFrom, h1], by simp [h2], fun k o' hk => ?_⟩
    cases k with
    | zero =>
      simp at hk; subst hk
      simp [List.getD_eq_getElem?_getD]
    | succ k =>
      simp at hk
      have := h3 k o' hk
      simp only [List.append_assoc, List.singleton_append, List.length_append, List.length_singleton] at this
      rw [show acc.length + (k + 1) = acc.length + 1 + k from by omega]
      exact this

theorem ancs_bit {all : List Oper} {j : Nat} {o : Oper} (hj : all[j]? = some o) {i : Nat} : (natAt (ancs all) j).testBit i = true ↔ ∃ e ∈ o.after.toList, Region.binds .any e = true ∧ (i = e.on ∨ (e.on < j ∧ (natAt (ancs all) e.on).testBit i = true)) := by
  obtain ⟨r, h1, h2, h3⟩ := ancsFrom_spec all []
  have h4 := h3 j o hj
  simp only [List.nil_append, List.length_nil, Nat.zero_add] at h1 h4
  have hjl : j < r.length := by
    rcases Nat.lt_or_ge j all.length with h | h
    · omega
    · rw [List.getElem?_eq_none h] at hj; cases hj
  rw [natAt_eq]
  unfold ancs
  rw [h1, h4, ancOf_bit]
  have key : ∀ q, (natAt (r.take j) q).testBit i = true ↔ (q < j ∧ (natAt r q).testBit i = true) := by
    intro q
    rw [natAt_eq, natAt_eq, List.getD_eq_getElem?_getD, List.getElem?_take]
    split
    · rename_i hq
      rw [List.getD_eq_getElem?_getD]
      exact ⟨fun h => ⟨hq, h⟩, fun h => h.2⟩
    · rename_i hq
      simp [hq]
  simp only [key]

/-- A name that a list of turns mentions. -/
def Dom (us : List (Nat × Res El)) (r : Nat) : Prop := ∃ x, (r, x) ∈ us

theorem getR_updR_not {us : List (Nat × Res El)} {r : Nat} (h : ¬ Dom us r) (R : List (Res El)) : getR (updR R us) r = getR R r := by
  induction us generalizing R with
  | nil => rfl
  | cons u us ih =>
    obtain ⟨n, x⟩ := u
    simp only [updR]
    rw [ih (fun ⟨y, hy⟩ => h ⟨y, List.mem_cons_of_mem _ hy⟩), getR_setR, if_neg (fun e => h ⟨x, by rw [e]; exact List.mem_cons_self ..⟩)]

theorem getR_updR_congr {us : List (Nat × Res El)} {r : Nat} {R R' : List (Res El)} (h : getR R r = getR R' r) : getR (updR R us) r = getR (updR R' us) r := by
  induction us generalizing R R' with
  | nil => exact h
  | cons u us ih =>
    obtain ⟨n, x⟩ := u
    simp only [updR]
    refine ih ?_
    rw [getR_setR, getR_setR]
    split
    · rfl
    · exact h

theorem getR_updR_dom {us : List (Nat × Res El)} {r : Nat} (h : Dom us r) (R R' : List (Res El)) : getR (updR R us) r = getR (updR R' us) r := by
  induction us generalizing R R' with
  | nil => obtain ⟨x, hx⟩ := h; simp at hx
  | cons u us ih =>
    obtain ⟨n, x⟩ := u
    simp only [updR]
    by_cases hd : Dom us r
    · exact ih hd _ _
    · have hn : r = n := by
        obtain ⟨y, hy⟩ := h
        rcases List.mem_cons.1 hy with hy | hy
        · cases hy; rfl
        · exact absurd ⟨y, hy⟩ hd
      rw [getR_updR_not hd, getR_updR_not hd, getR_setR, getR_setR, if_pos hn, if_pos hn]

theorem resF_congr {m m' : Nat → Bool} {tr : List (Ent El)} {k r : Nat} {R R' : List (Res El)} (hm : ∀ i e, tr[i]? = some e → Dom e.upd r → m (k + i) = m' (k + i)) (hR : getR R r = getR R' r) :
    getR (resF m tr k R) r = getR (resF m' tr k R') r := by
  induction tr generalizing k R R' with
  | nil => exact hR
  | cons e es ih =>
    simp only [resF]
    refine ih (fun i e' he hd => ?_) ?_
    · have := hm (i + 1) e' (by simpa using he) hd
      rwa [show k + (i + 1) = k + 1 + i from by omega] at this
    · by_cases hd : Dom e.upd r
      · have := hm 0 e rfl hd
        simp only [Nat.add_zero] at this
        rw [this]
        split
        · exact getR_updR_congr hR
        · exact hR
      · split
        · rw [getR_updR_not hd]
          split
          · rw [getR_updR_not hd]; exact hR
          · exact hR
        · split
          · rw [getR_updR_not hd]; exact hR
          · exact hR

theorem resF_none {m : Nat → Bool} {tr : List (Ent El)} {k r : Nat} {R : List (Res El)} (hm : ∀ i e, tr[i]? = some e → Dom e.upd r → m (k + i) = false) : getR (resF m tr k R) r = getR R r := by
  rw [resF_congr (m' := fun _ => false) (R' := R) (fun i e h1 h2 => hm i e h1 h2) rfl]
  clear hm
  induction tr generalizing k with
  | nil => rfl
  | cons e es ih => simp only [resF]; exact ih

theorem resF_last {m : Nat → Bool} {tr : List (Ent El)} {k r j : Nat} {R : List (Res El)} {e : Ent El} (he : tr[j]? = some e) (hd : Dom e.upd r) (hj : m (k + j) = true)
    (hm : ∀ i e, tr[i]? = some e → j < i → Dom e.upd r → m (k + i) = false) (X : List (Res El)) : getR (resF m tr k R) r = getR (updR X e.upd) r := by
  induction tr generalizing k j R with
  | nil => simp at he
  | cons a es ih =>
    simp only [resF]
    cases j with
    | zero =>
      simp at he; subst he
      rw [resF_none (fun i e' h1 h2 => by
        have := hm (i + 1) e' (by simpa using h1) (by omega) h2
        rwa [show k + (i + 1) = k + 1 + i from by omega] at this)]
      simp only [Nat.add_zero] at hj
      rw [if_pos hj]
      exact getR_updR_dom hd _ _
    | succ j =>
      refine ih (by simpa using he) (by rwa [show k + (j + 1) = k + 1 + j from by omega] at hj) (fun i e' h1 h2 h3 => ?_)
      have := hm (i + 1) e' (by simpa using h1) (by omega) h3
      rwa [show k + (i + 1) = k + 1 + i from by omega] at this

theorem resF_take {m : Nat → Bool} {tr : List (Ent El)} {j r : Nat} {R : List (Res El)} (hm : ∀ i, j ≤ i → m i = false) : getR (resF m (tr.take j) 0 R) r = getR (resF m tr 0 R) r := by
  have key : ∀ (tr : List (Ent El)) (k j : Nat) (R : List (Res El)), (∀ i, k + j ≤ i → m i = false) → getR (resF m (tr.take j) k R) r = getR (resF m tr k R) r := by
    intro tr
    induction tr with
    | nil => intro k j R _; simp
    | cons e es ih =>
      intro k j R h
      cases j with
      | zero =>
        simp only [List.take_zero]
        exact (resF_none (fun i e' _ _ => h _ (by omega))).symm
      | succ j =>
        simp only [List.take_succ_cons, resF]
        exact ih (k + 1) j _ (fun i hi => h i (by omega))
  exact key tr 0 j R (by simpa using hm)

theorem maxUpd_spec (us : List (Nat × Res El)) (m : Nat) : m ≤ maxUpd m us ∧ ∀ r, Dom us r → r < maxUpd m us := by
  induction us generalizing m with
  | nil => exact ⟨Nat.le_refl _, fun r ⟨x, hx⟩ => by simp at hx⟩
  | cons u us ih =>
    obtain ⟨n, x⟩ := u
    simp only [maxUpd]
    obtain ⟨h1, h2⟩ := ih (if n < m then m else n + 1)
    refine ⟨Nat.le_trans (by split <;> omega) h1, fun r ⟨y, hy⟩ => ?_⟩
    rcases List.mem_cons.1 hy with hy | hy
    · cases hy
      refine Nat.lt_of_lt_of_le ?_ h1
      split <;> omega
    · exact h2 r ⟨y, hy⟩

theorem getR_ge {R : List (Res El)} {r : Nat} (h : lenR R ≤ r) : getR R r = .dead := by
  induction R generalizing r with
  | nil => rfl
  | cons a l ih =>
    cases r with
    | zero => simp [lenR] at h
    | succ r => exact ih (by simp [lenR] at h; omega)

theorem isDead_iff {x : Res El} : isDead x = false ↔ x ≠ .dead := by cases x <;> simp [isDead]

theorem updOk_spec {R : List (Res El)} {base : Nat} {us : List (Nat × Res El)} (h : updOk R base us = true) {r : Nat} (hd : Dom us r) : base ≤ r ∨ getR R r ≠ .dead := by
  induction us with
  | nil => obtain ⟨x, hx⟩ := hd; simp at hx
  | cons u us ih =>
    obtain ⟨n, x⟩ := u
    simp only [updOk, Bool.and_eq_true, Bool.or_eq_true, decide_eq_true_eq, Bool.not_eq_true', isDead_iff] at h
    obtain ⟨y, hy⟩ := hd
    rcases List.mem_cons.1 hy with hy | hy
    · cases hy; exact h.1
    · exact ih h.2 ⟨y, hy⟩
end basics
end Go.Ax
end

/- A verified symbolic executor, part 13: a region that draws the order of its operations comes to one state, whatever the order. Over any program; the facts on its types are given with it. -/
section
set_option linter.unusedVariables false
set_option linter.unusedSimpArgs false
namespace Go.Ax
variable {El : TypeId → Type}

section frame
variable {L : Lay El} {I I' : Nat → Prop} {E E' : Env} {R Rm : List (Res El)} {w w' : World}

theorem HR.congr {R' : List (Res El)} (h : HR L I w E R) (hR : ∀ r, getR R' r = getR R r) : HR L I w E R' where
  res r hr := by rw [hR] at hr ⊢; exact h.res r hr
  apart r r' e e' b h1 h2 h3 h4 h5 h6 := h.apart r r' e e' b (by rwa [hR] at h1) (by rwa [hR] at h2) h3 h4 h5 h6
  notI b hb := h.notI b (by obtain ⟨r, e, h1, h2, h3⟩ := hb; exact ⟨r, e, by rwa [hR] at h1, h2, h3⟩)
  old := h.old

/-- Fewer resources. -/
theorem HR.less (h : HR L I w E R) (hR : ∀ r, getR Rm r ≠ .dead → getR Rm r = getR R r) : HR L I w E Rm where
  res r hr := by
    have := hR r hr
    rw [this] at hr ⊢
    exact h.res r hr
  apart r r' e e' b h1 h2 h3 h4 h5 h6 := h.apart r r' e e' b (by rw [← hR r h1]; exact h1) (by rw [← hR r' h2]; exact h2) h3 h4 h5 h6
  notI b hb := h.notI b (by obtain ⟨r, e, h1, h2, h3⟩ := hb; exact ⟨r, e, by rw [← hR r h1]; exact h1, h2, h3⟩)
  old := h.old

/-- An operation that was carried out over fewer resources: the others stand beside it. -/
theorem HR.frame (h : HR L I w E R) (hR : ∀ r, getR Rm r ≠ .dead → getR Rm r = getR R r) {base : Nat} {upd : List (Nat × Res El)} {a : AVal El} {v : Value} (hp : Post L I E Rm w base upd a v w' I' E')
    (hu : ∀ r, Dom upd r → (base ≤ r ∧ E r = none) ∨ getR Rm r ≠ .dead) : Post L I E R w base upd a v w' I' E' := by
  have hm := h.less hR
  have ownM : ∀ b, Own E Rm b → Own E R b := by
    rintro b ⟨r, e, h1, h2, h3⟩
    exact ⟨r, e, by rw [← hR r h1]; exact h1, h2, h3⟩
  -- what a resource is afterwards: one of those carried along, or one left alone
  have split : ∀ r, (getR (updR R upd) r = getR (updR Rm upd) r ∧ (Dom upd r ∨ getR Rm r ≠ .dead)) ∨ (¬ Dom upd r ∧ getR Rm r = .dead ∧ getR (updR R upd) r = getR R r) := by
    intro r
    by_cases hd : Dom upd r
    · exact .inl ⟨getR_updR_dom hd _ _, .inl hd⟩
    · by_cases hrm : getR Rm r = .dead
      · exact .inr ⟨hd, hrm, getR_updR_not hd _⟩
      · exact .inl ⟨by rw [getR_updR_not hd, getR_updR_not hd, hR r hrm], .inr hrm⟩
  have aside : ∀ r, ¬ Dom upd r → getR Rm r = .dead → getR R r ≠ .dead → ∀ e, E r = some e → ∀ b, e.blk = some b → ¬ Own E Rm b := by
    intro r hd hrm hr e he b hb ⟨r', e', h1, h2, h3⟩
    have := h.apart r r' e e' b hr (by rw [← hR r' h1]; exact h1) he h2 hb h3
    subst this
    exact h1 hrm
  have keepI : ∀ b, I b → w'.heap[b]? = w.heap[b]? := hm.immSame hp.ext
  have ownSplit : ∀ b, Own E' (updR R upd) b → Own E' (updR Rm upd) b ∨ ∃ r e, ¬ Dom upd r ∧ getR Rm r = .dead ∧ getR R r ≠ .dead ∧ E r = some e ∧ e.blk = some b := by
    rintro b ⟨r, e, h1, h2, h3⟩
    rcases split r with ⟨g1, _⟩ | ⟨g1, g2, g3⟩
    · exact .inl ⟨r, e, by rw [← g1]; exact h1, h2, h3⟩
    · rw [g3] at h1
      obtain ⟨e', k1, _⟩ := h.res r h1
      have := hp.ext.env r e' k1
      rw [h2] at this; cases this
      exact .inr ⟨r, e, g1, g2, h1, k1, h3⟩
  have ownNew : ∀ b, Own E' (updR R upd) b → Own E R b ∨ w.heap.size ≤ b := by
    intro b hb
    rcases ownSplit b hb with hb | ⟨r, e, g1, g2, g3, g4, g5⟩
    · exact (hp.ext.ownOld b hb).imp (ownM b) id
    · exact .inl ⟨r, e, g3, g4, g5⟩
  refine ⟨⟨hp.ext.imm, hp.ext.env, hp.ext.fr.weaken ownM, fun b hb => (hp.ext.immOld b hb).imp id (Or.imp (ownM b) id), ownNew⟩, ⟨?_, ?_, ?_, hp.hr.old⟩, hp.rep, hp.names⟩
  · intro r hr
    rcases split r with ⟨g1, _⟩ | ⟨g1, g2, g3⟩
    · rw [g1] at hr ⊢; exact hp.hr.res r hr
    · rw [g3] at hr ⊢
      obtain ⟨e, k1, k2⟩ := h.res r hr
      exact ⟨e, hp.ext.env _ _ k1, k2.keep hp.ext.imm keepI hp.ext.env (fun b hb hlt => hp.ext.fr.block b hlt (aside r g1 g2 hr e k1 b hb))⟩
  · intro r1 r2 e1 e2 b h1 h2 h3 h4 h5 h6
    rcases split r1 with ⟨g1, g1'⟩ | ⟨g1, g2, g3⟩
    · rw [g1] at h1
      rcases split r2 with ⟨k1, k1'⟩ | ⟨k1, k2, k3⟩
      · rw [k1] at h2; exact hp.hr.apart r1 r2 e1 e2 b h1 h2 h3 h4 h5 h6
      · rw [k3] at h2
        obtain ⟨e', q1, q2⟩ := h.res r2 h2
        have := hp.ext.env r2 e' q1
        rw [h4] at this; cases this
        have hlt := q2.blk_lt h2 h6
        rcases hp.ext.ownOld b ⟨r1, e1, h1, h3, h5⟩ with ho | ho
        · exact absurd ho (aside r2 k1 k2 h2 e2 q1 b h6)
        · omega
    · rw [g3] at h1
      obtain ⟨e', q1, q2⟩ := h.res r1 h1
      have := hp.ext.env r1 e' q1
      rw [h3] at this; cases this
      rcases split r2 with ⟨k1, k1'⟩ | ⟨k1, k2, k3⟩
      · rw [k1] at h2
        have hlt := q2.blk_lt h1 h5
        rcases hp.ext.ownOld b ⟨r2, e2, h2, h4, h6⟩ with ho | ho
        · exact absurd ho (aside r1 g1 g2 h1 e1 q1 b h5)
        · omega
      · rw [k3] at h2
        obtain ⟨e'', p1, p2⟩ := h.res r2 h2
        have := hp.ext.env r2 e'' p1
        rw [h4] at this; cases this
        exact h.apart r1 r2 e1 e2 b h1 h2 q1 p1 h5 h6
  · intro b hb hI
    rcases ownSplit b hb with hb | ⟨r, e, g1, g2, g3, g4, g5⟩
    · exact hp.hr.notI b hb hI
    · rcases hp.ext.immOld b hI with h1 | h1 | h1
      · exact h.notI b ⟨r, e, g3, g4, g5⟩ h1
      · exact aside r g1 g2 g3 e g4 b g5 h1
      · have := h.own_lt ⟨r, e, g3, g4, g5⟩
        omega
end frame

/-- What the trace says of one operation. -/
structure Fact (c : Cx El) (Γ : FuncId → Option (GSpec El)) (all : List Oper) (st : St El) (tr : List (Ent El)) (j : Nat) (o : Oper) (e : Ent El) : Prop where
  run : (∃ b t, o.guard = some (b, t) ∧ (∃ s x, dstOf all b = some s ∧ evM all (ancs all) st.slots (tr.take j) j (.tmp s) = .bool x ∧ (x == t) = false) ∧ e.val = .top ∧ e.upd = []) ∨
    ((o.guard = none ∨ ∃ b t, o.guard = some (b, t) ∧ ∃ s x, dstOf all b = some s ∧ evM all (ancs all) st.slots (tr.take j) j (.tmp s) = .bool x ∧ (x == t) = true) ∧
      (aop c Γ (resF (natAt (ancs all) j).testBit (tr.take j) 0 st.res) e.base (evM all (ancs all) st.slots (tr.take j) j) o.op).Out (e.val, e.upd) ∧
      updOk (resF (natAt (ancs all) j).testBit (tr.take j) 0 st.res) e.base e.upd = true)

theorem setV_same {tr : List (Ent El)} {i : Nat} {e : Ent El} {q : Bool} (h : entAt tr i = some e) (he : e.val = .bool q) : setV tr i q = tr := by
  induction tr generalizing i with
  | nil => cases h
  | cons x tr ih =>
    cases i with
    | zero =>
      simp only [entAt, Option.some.injEq] at h; subst h
      cases x
      simp only at he; subst he
      rfl
    | succ i =>
      simp only [entAt] at h
      simp only [setV, ih h]
theorem setTr_same {all : List Oper} {an : List Nat} {slots : List (AVal El)} {tr : List (Ent El)} {j : Nat} {t : Tmp} {q : Bool} (h : evM all an slots tr j (.tmp t) = .bool q) : setTr all an j t tr q = tr := by
  simp only [evM] at h
  unfold setTr
  cases hw : writerOf all t 0 with
  | none => rfl
  | some i =>
    rw [hw] at h
    simp only at h ⊢
    cases hb : (natAt an j).testBit i with
    | false => rfl
    | true =>
      rw [hb, if_pos rfl] at h
      cases he : entAt tr i with
      | none => rw [he] at h; cases h
      | some e => rw [he] at h; exact setV_same he h

theorem traceD_spec {c : Cx El} {Γ : FuncId → Option (GSpec El)} {all : List Oper} {st : St El} {l : List Oper} {j base : Nat} {tr tr' : List (Ent El)} (hlen : tr.length = j) (ho : (traceD c Γ all (ancs all) st l j base tr).Out tr') :
    ∃ ext, tr' = tr ++ ext ∧ ext.length = l.length ∧ (∀ (k : Nat) (o : Oper) (e : Ent El), l[k]? = some o → ext[k]? = some e → Fact c Γ all st tr' (j + k) o e ∧ base ≤ e.base) ∧
      (∀ (k k' : Nat) (e e' : Ent El), ext[k]? = some e → ext[k']? = some e' → k < k' → ∀ r, Dom e.upd r → r < e'.base) ∧
      (∀ (k k' : Nat) (e e' : Ent El), ext[k]? = some e → ext[k']? = some e' → k < k' → e.base ≤ e'.base) := by
  induction l generalizing j base tr with
  | nil =>
    simp only [traceD, Tree.Out] at ho; subst ho
    exact ⟨[], by simp, rfl, fun k o e h => by simp at h, fun k k' e e' h => by simp at h, fun k k' e e' h => by simp at h⟩
  | cons o rest ih =>
    -- one step, whatever its entry
    have step : ∀ (x : Ent El) (base' : Nat), base ≤ base' → (∀ r, Dom x.upd r → r < base') → x.base = base → (∀ tr', tr'.take j = tr → Fact c Γ all st tr' j o x) →
        (traceD c Γ all (ancs all) st rest (j + 1) base' (tr ++ [x])).Out tr' → ∃ ext, tr' = tr ++ ext ∧ ext.length = (o :: rest).length ∧
          (∀ (k : Nat) (o' : Oper) (e : Ent El), (o :: rest)[k]? = some o' → ext[k]? = some e → Fact c Γ all st tr' (j + k) o' e ∧ base ≤ e.base) ∧
          (∀ (k k' : Nat) (e e' : Ent El), ext[k]? = some e → ext[k']? = some e' → k < k' → ∀ r, Dom e.upd r → r < e'.base) ∧
          (∀ (k k' : Nat) (e e' : Ent El), ext[k]? = some e → ext[k']? = some e' → k < k' → e.base ≤ e'.base) := by
      intro x base' hb hd hx hf ho'
      obtain ⟨ext, h1, h2, h3, h4, h5⟩ := ih (by simp [hlen]) ho'
      refine ⟨x :: ext, by simp [h1], by simp [h2], ?_, ?_, ?_⟩
      · intro k o' e hk he
        cases k with
        | zero =>
          simp at hk he; subst hk; subst he
          exact ⟨hf tr' (by rw [h1, List.append_assoc, ← hlen, List.take_left]), by omega⟩
        | succ k =>
          simp at hk he
          have := h3 k o' e hk he
          rw [show j + (k + 1) = j + 1 + k from by omega]
          exact ⟨this.1, by omega⟩
      · intro k k' e e' hk hk' hlt r hr
        cases k' with
        | zero => omega
        | succ k' =>
          simp at hk'
          cases k with
          | zero =>
            simp at hk; subst hk
            have hlt' : k' < rest.length := by
              rcases Nat.lt_or_ge k' ext.length with h | h
              · omega
              · rw [List.getElem?_eq_none h] at hk'; cases hk'
            have := (h3 k' rest[k'] e' (List.getElem?_eq_getElem hlt') hk').2
            have := hd r hr
            omega
          | succ k =>
            simp at hk
            exact h4 k k' e e' hk hk' (by omega) r hr
      · intro k k' e e' hk hk' hlt
        cases k' with
        | zero => omega
        | succ k' =>
          simp at hk'
          cases k with
          | zero =>
            simp at hk; subst hk
            have hlt' : k' < rest.length := by
              rcases Nat.lt_or_ge k' ext.length with h | h
              · omega
              · rw [List.getElem?_eq_none h] at hk'; cases hk'
            have := (h3 k' rest[k'] e' (List.getElem?_eq_getElem hlt') hk').2
            omega
          | succ k =>
            simp at hk
            exact h5 k k' e e' hk hk' (by omega)
    have wanted : ∀ (hg : o.guard = none ∨ ∃ b t, o.guard = some (b, t) ∧ ∃ s x, dstOf all b = some s ∧ evM all (ancs all) st.slots tr j (.tmp s) = .bool x ∧ (x == t) = true),
        ((aop c Γ (resF (natAt (ancs all) j).testBit tr 0 st.res) base (evM all (ancs all) st.slots tr j) o.op).bind fun y =>
          if updOk (resF (natAt (ancs all) j).testBit tr 0 st.res) base y.2 = true then traceD c Γ all (ancs all) st rest (j + 1) (maxUpd base y.2) (tr ++ [⟨y.1, y.2, base⟩]) else .fail).Out tr' →
        ∃ ext, tr' = tr ++ ext ∧ ext.length = (o :: rest).length ∧
          (∀ (k : Nat) (o' : Oper) (e : Ent El), (o :: rest)[k]? = some o' → ext[k]? = some e → Fact c Γ all st tr' (j + k) o' e ∧ base ≤ e.base) ∧
          (∀ (k k' : Nat) (e e' : Ent El), ext[k]? = some e → ext[k']? = some e' → k < k' → ∀ r, Dom e.upd r → r < e'.base) ∧
          (∀ (k k' : Nat) (e e' : Ent El), ext[k]? = some e → ext[k']? = some e' → k < k' → e.base ≤ e'.base) := by
      intro hg ho
      rw [Tree.out_bind] at ho
      obtain ⟨y, h1, h2⟩ := ho
      split at h2
      · rename_i hu
        obtain ⟨m1, m2⟩ := maxUpd_spec y.2 base
        refine step ⟨y.1, y.2, base⟩ _ m1 m2 rfl (fun tr'' ht => ⟨.inr ?_⟩) h2
        rw [ht]
        exact ⟨hg, h1, hu⟩
      · exact h2.elim
    simp only [traceD] at ho
    split at ho
    · rename_i hg
      exact wanted (.inl hg) ho
    · rename_i g want hg
      split at ho
      · rename_i t ht
        split at ho
        · rename_i b hb
          simp only [Tree.Out] at ho
          rcases ho with ⟨hbw, ho⟩ | ⟨hbw, ho⟩
          · have hq : b = want := by simpa using hbw
            rw [setTr_same (by rw [hb, hq])] at ho
            exact wanted (.inr ⟨g, want, hg, t, b, ht, hb, hbw⟩) ho
          · have hq : b = !want := by cases b <;> cases want <;> simp_all
            rw [setTr_same (by rw [hb, hq])] at ho
            refine step ⟨.top, [], base⟩ base (Nat.le_refl _) (fun r ⟨x, hx⟩ => by simp at hx) rfl (fun tr'' h => ⟨.inl ?_⟩) ho
            rw [h]
            exact ⟨g, want, hg, ⟨t, b, ht, hb, hbw⟩, rfl, rfl⟩
        · exact ho.elim
      · exact ho.elim

theorem writerOf_spec {all : List Oper} {t : Tmp} {k : Nat} : (∀ i, writerOf all t k = some i → k ≤ i ∧ ∃ o, all[i - k]? = some o ∧ o.dst = some t) ∧ (writerOf all t k = none → ∀ (i : Nat) (o : Oper), all[i]? = some o → o.dst ≠ some t) := by
  induction all generalizing k with
  | nil => exact ⟨fun i h => by simp [writerOf] at h, fun _ i o h => by simp at h⟩
  | cons o rest ih =>
    obtain ⟨h1, h2⟩ := ih (k := k + 1)
    have later : ∀ i, writerOf rest t (k + 1) = some i → k ≤ i ∧ ∃ o', (o :: rest)[i - k]? = some o' ∧ o'.dst = some t := by
      intro i hi
      obtain ⟨g1, o', g2, g3⟩ := h1 i hi
      refine ⟨by omega, o', ?_, g3⟩
      rw [show i - k = (i - (k + 1)) + 1 from by omega]
      simpa using g2
    simp only [writerOf]
    cases hd : o.dst with
    | none =>
      simp only
      refine ⟨later, fun hn i o' ho' => ?_⟩
      cases i with
      | zero => simp at ho'; subst ho'; rw [hd]; simp
      | succ i => simp at ho'; exact h2 hn i o' ho'
    | some d =>
      simp only
      split
      · rename_i hdt
        subst hdt
        exact ⟨fun i hi => by cases hi; exact ⟨Nat.le_refl _, o, by simp, hd⟩, fun hn => by cases hn⟩
      · rename_i hdt
        refine ⟨later, fun hn i o' ho' => ?_⟩
        cases i with
        | zero => simp at ho'; subst ho'; rw [hd]; simpa using hdt
        | succ i => simp at ho'; exact h2 hn i o' ho'

section main
variable {c : Cx El} {Γ : FuncId → Option (GSpec El)} {ops : Array Oper} {st : St El} {tr : List (Ent El)}

/-- All that is known of a trace. -/
structure TrOk (c : Cx El) (Γ : FuncId → Option (GSpec El)) (all : List Oper) (st : St El) (tr : List (Ent El)) : Prop where
  len : tr.length = all.length
  fact : ∀ (j : Nat) (o : Oper) (e : Ent El), all[j]? = some o → tr[j]? = some e → Fact c Γ all st tr j o e
  base : ∀ (j : Nat) (e : Ent El), tr[j]? = some e → lenR st.res ≤ e.base
  below : ∀ (j j' : Nat) (e e' : Ent El), tr[j]? = some e → tr[j']? = some e' → j < j' → ∀ r, Dom e.upd r → r < e'.base
  edges : ∀ (j : Nat) (o : Oper), all[j]? = some o → ∀ d ∈ o.after.toList, Region.binds .any d = true → d.on < j
  touch : ∀ (j : Nat) (o : Oper) (e : Ent El), all[j]? = some o → tr[j]? = some e → ∀ r, Dom e.upd r → touches o.op = true
  dst : ∀ (i j : Nat) (o p : Oper), all[j]? = some o → all[i]? = some p → i ≠ j → ∀ d, o.dst = some d → p.dst ≠ some d
  room : ∀ (j : Nat) (o : Oper), all[j]? = some o → ∀ d, o.dst = some d → d < st.slots.length
  apart : ∀ (i j : Nat) (p : Oper) (q e : Ent El), all[i]? = some p → tr[i]? = some q → tr[j]? = some e → i ≠ j → ∀ r, Dom e.upd r → r < e.base → touches p.op = true →
    (natAt (ancs all) j).testBit i = true ∨ (natAt (ancs all) i).testBit j = true ∨ (softE p.op q.val = true ∧ isVecR (getR st.res r) = true ∧ lens st.res tr) ∨ (∃ rs, softL all (ancs all) st.slots tr i p.op = some rs ∧ r ∉ rs)

theorem trOk_of {all : List Oper} {soft : Bool} (ht : (traceD c Γ all (ancs all) st all 0 (lenR st.res) []).Out tr) (hk : okD soft st.res st.slots all (ancs all) tr = true) (hlens : soft = true → lens st.res tr) : TrOk c Γ all st tr := by
  obtain ⟨ext, h1, h2, h3, h4, h5⟩ := traceD_spec (tr := []) (j := 0) rfl ht
  simp only [List.nil_append] at h1; subst h1
  have hlt : ∀ {j : Nat} {o : Oper}, all[j]? = some o → j < all.length := fun {j o} h => by
    rcases Nat.lt_or_ge j all.length with h' | h'
    · exact h'
    · rw [List.getElem?_eq_none h'] at h; cases h
  have hlt' : ∀ {j : Nat} {e : Ent El}, tr[j]? = some e → ∃ o, all[j]? = some o := fun {j e} h => by
    rcases Nat.lt_or_ge j tr.length with h' | h'
    · exact ⟨all[j]'(by omega), List.getElem?_eq_getElem (by omega)⟩
    · rw [List.getElem?_eq_none h'] at h; cases h
  have full : ∀ (j : Nat) (o : Oper) (e : Ent El), all[j]? = some o → tr[j]? = some e → (o.after.toList.all fun d => !Region.binds .any d || decide (d.on < j)) = true ∧ (e.upd.isEmpty || touches o.op) = true ∧ (match o.dst with | some d => decide (d < lenA st.slots) | none => true) = true ∧
      ∀ (i : Nat) (p : Oper), all[i]? = some p → i ≠ j → (match o.dst, p.dst with | some d, some d' => decide (d ≠ d') | _, _ => true) = true ∧
        (!turns e || !touches p.op || (natAt (ancs all) j).testBit i || (natAt (ancs all) i).testBit j || (soft && (match tr[i]? with | some q => softE p.op q.val | none => false) && vecTurns st.res e) || (match softL all (ancs all) st.slots tr i p.op with | some r => spares e r | none => false)) = true := by
    intro j o e ho he
    unfold okD at hk
    rw [List.all_eq_true] at hk
    have := hk j (List.mem_range.2 (hlt ho))
    rw [ho, he] at this
    simp only [Bool.and_eq_true] at this
    obtain ⟨⟨⟨k1, k2⟩, k2'⟩, k3⟩ := this
    refine ⟨k1, k2, k2', fun i p hp hij => ?_⟩
    rw [List.all_eq_true] at k3
    have := k3 i (List.mem_range.2 (hlt hp))
    rw [hp] at this
    simp only [Bool.or_eq_true, beq_iff_eq, hij, false_or, Bool.and_eq_true] at this
    refine ⟨this.1, ?_⟩
    simp only [Bool.or_eq_true, Bool.and_eq_true] at this ⊢
    exact this.2
  refine ⟨h2, fun j o e ho he => by have := (h3 j o e ho he).1; simpa using this, fun j e he => ?_, h4, fun j o ho d hd hb => ?_, fun j o e ho he r hr => ?_, fun i j o p ho hp hij d hd => ?_, fun j o ho d hd => ?_, fun i j p q e hp hq he hij r hr hlt2 htc => ?_⟩
  · obtain ⟨o, ho⟩ := hlt' he
    exact (h3 j o e ho he).2
  · have hj : j < tr.length := by rw [h2]; exact hlt ho
    have := (full j o tr[j] ho (List.getElem?_eq_getElem hj)).1
    rw [List.all_eq_true] at this
    have := this d hd
    simpa [hb] using this
  · have := (full j o e ho he).2.1
    obtain ⟨x, hx⟩ := hr
    cases hu : e.upd with
    | nil => rw [hu] at hx; simp at hx
    | cons u us => rw [hu] at this; simpa using this
  · have hj : j < tr.length := by rw [h2]; exact hlt ho
    have := ((full j o tr[j] ho (List.getElem?_eq_getElem hj)).2.2.2 i p hp hij).1
    rw [hd] at this
    intro hp'
    rw [hp'] at this
    simp at this
  · have hj : j < tr.length := by rw [h2]; exact hlt ho
    have := (full j o tr[j] ho (List.getElem?_eq_getElem hj)).2.2.1
    rw [hd, lenA_eq] at this
    simpa using this
  · obtain ⟨o, ho⟩ := hlt' he
    have := ((full j o e ho he).2.2.2 i p hp hij).2
    have ht : turns e = true := by
      obtain ⟨x, hx⟩ := hr
      unfold turns
      rw [List.any_eq_true]
      exact ⟨(r, x), hx, by simpa using hlt2⟩
    simp only [ht, htc, hq, Bool.not_true, Bool.false_or, Bool.or_eq_true, Bool.and_eq_true] at this
    rcases this with ((h | h) | ⟨⟨h1, h2⟩, h3⟩) | h
    · exact .inl h
    · exact .inr (.inl h)
    · refine .inr (.inr (.inl ⟨h2, ?_, hlens h1⟩))
      obtain ⟨x, hx⟩ := hr
      unfold vecTurns at h3
      rw [List.all_eq_true] at h3
      have := h3 (r, x) hx
      simpa [Nat.not_le.2 hlt2] using this
    · split at h
      · rename_i rs hr0
        refine .inr (.inr (.inr ⟨rs, hr0, ?_⟩))
        obtain ⟨x, hx⟩ := hr
        unfold spares at h
        rw [List.all_eq_true] at h
        exact notIn_ne (h (r, x) hx)
      · cases h

/-- An operation that looks at a length alone turns nothing. -/
theorem soft_upd {all : List Oper} (T : TrOk c Γ all st tr) {j : Nat} {o : Oper} {e : Ent El} (hj : all[j]? = some o) (he : tr[j]? = some e) (hs : softE o.op e.val = true) : e.upd = [] := by
  rcases (T.fact j o e hj he).run with ⟨b, t, hg, _, hv, hu⟩ | ⟨_, hout, _⟩
  · exact hu
  · cases hop : o.op <;> rw [hop] at hs hout <;> simp only [softE] at hs <;> try (cases hs; done)
    simp only [aop] at hout
    obtain ⟨x, _, hx⟩ := pureT_out hout
    exact (Prod.mk.inj hx).2

/-- An address in a vector hangs on its length alone. -/
theorem soft_out {R R' : List (Res El)} {t : TypeId} {a ix y : AVal El} (h : (aIndexAddr c R t a ix).Out y) (hv : ∀ (r : Nat) (t' : TypeId) (xs : List (El t')), getR R r = .vec t' xs → ∃ ys : List (El t'), getR R' r = .vec t' ys ∧ ys.length = xs.length) :
    (aIndexAddr c R' t a ix).Out y := by
  unfold aIndexAddr at h ⊢
  split at h
  · exact h
  · split at h
    · exact h
    · rename_i r
      split at h
      · rename_i t' xs hg
        obtain ⟨ys, h1, h2⟩ := hv r t' xs hg
        rw [h1]
        simp only
        split at h
        · rename_i hq
          rw [if_pos hq]
          obtain ⟨h3, h4⟩ := h
          exact ⟨by rw [h2]; exact h3, h4⟩
        · exact h.elim
      · exact h.elim
    · exact h
    · exact h.elim
  · exact h.elim
theorem soft_outR {R R' : List (Res El)} {t : TypeId} {a ix y : AVal El} (h : (aIndexAddrR c R t a ix).Out y) (hv : ∀ (r : Nat) (t' : TypeId) (xs : List (El t')), getR R r = .vec t' xs → ∃ ys : List (El t'), getR R' r = .vec t' ys ∧ ys.length = xs.length)
    (hn : ∀ (r : Nat) (t' : TypeId) (xs : List (El t')) (k : Nat) (nm : List (AVal El)), getR R r = .recs t' xs k nm → getR R' r = .recs t' xs k nm) : (aIndexAddrR c R' t a ix).Out y := by
  unfold aIndexAddrR at h ⊢
  split at h
  · rename_i r
    split at h
    · rename_i t' xs k nm hg
      simp only [hn _ _ _ _ _ hg]
      exact h
    · rename_i hno
      cases hgr : getR R r with
      | vec t' xs =>
        obtain ⟨ys, k1, _⟩ := hv _ _ _ hgr
        simp only [k1]
        exact soft_out h hv
      | recs t' xs k nm => exact absurd hgr (hno t' xs k nm)
      | dead | cells | mapS | mapC =>
        exfalso
        unfold aIndexAddr at h
        split at h
        · exact h
        · simp only [hgr] at h; exact h
        · exact h
  · exact soft_out h hv
/-- An operation that looks at some resources alone. -/
theorem softL_out {all : List Oper} {an : List Nat} {slots : List (AVal El)} {j base : Nat} {op : Op} {rs : List Nat} {R R' : List (Res El)} {y : Eff El} (hs : softL all an slots tr j op = some rs)
    (hR : ∀ r ∈ rs, getR R r ≠ .dead → getR R r = getR R' r) (h : (aop c Γ R base (evM all an slots (tr.take j) j) op).Out y) : (aop c Γ R' base (evM all an slots (tr.take j) j) op).Out y ∧ ∀ r, Dom y.2 r → r = base ∧ ∀ e, tr[j]? = some e → e.base ∈ rs := by
  have none_ : ∀ r, Dom ([] : List (Nat × Res El)) r → r = base ∧ ∀ e, tr[j]? = some e → e.base ∈ rs := fun r ⟨_, h⟩ => by simp at h
  cases op <;> simp only [softL] at hs <;> try (cases hs; done)
  case alloc t =>
    split at hs
    · rename_i e he
      cases hs
      simp only [aop] at h ⊢
      refine ⟨h, fun r hr => ⟨?_, fun e' he' => ?_⟩⟩
      · unfold aAlloc at h
        split at h
        · unfold aBox at h
          split at h
          · simp only [Tree.Out] at h; subst h
            obtain ⟨x, hx⟩ := hr
            simp at hx; exact hx.1
          · exact h.elim
        · exact h.elim
      · rw [he] at he'; cases he'; exact List.mem_singleton.2 rfl
    · cases hs
  case box t x =>
    split at hs
    · rename_i e he
      cases hs
      simp only [aop] at h ⊢
      refine ⟨h, fun r hr => ⟨?_, fun e' he' => ?_⟩⟩
      · unfold aBox at h
        split at h
        · simp only [Tree.Out] at h; subst h
          obtain ⟨x, hx⟩ := hr
          simp at hx; exact hx.1
        · exact h.elim
      · rw [he] at he'; cases he'; exact List.mem_singleton.2 rfl
    · cases hs
  case load t x =>
    simp only [aop] at h ⊢
    obtain ⟨z, hz, hy⟩ := pureT_out h
    subst hy
    refine ⟨?_, none_⟩
    unfold pureT
    rw [Tree.out_bind]
    refine ⟨z, ?_, rfl⟩
    split at hs
    · rename_i r off hev
      cases hs
      rw [hev] at hz ⊢
      have hsame := hR r (List.mem_cons_self ..) (fun hd => by
        unfold aLoadR aLoad cellsAt at hz
        simp only [hd] at hz
        exact hz.elim)
      unfold aLoadR aLoad cellsAt at hz ⊢
      simp only [← hsame]; exact hz
    · rename_i hev
      rw [hev] at hz ⊢
      unfold aLoadR aLoad at hz ⊢
      exact hz
    · cases hs
  case indexAddr t x i =>
    simp only [aop] at h ⊢
    obtain ⟨z, hz, hy⟩ := pureT_out h
    subst hy
    refine ⟨?_, none_⟩
    unfold pureT
    rw [Tree.out_bind]
    refine ⟨z, ?_, rfl⟩
    split at hs
    · rename_i hev
      rw [hev] at hz ⊢
      unfold aIndexAddrR aIndexAddr at hz ⊢
      exact hz
    · rename_i hev
      rw [hev] at hz ⊢
      unfold aIndexAddrR aIndexAddr at hz ⊢
      exact hz
    · rename_i hev
      rw [hev] at hz ⊢
      unfold aIndexAddrR aIndexAddr at hz ⊢
      exact hz
    · cases hs
  case call cl =>
    split at hs
    · rename_i hc
      split at hs
      · rename_i x hx
        simp only [aop, hc, hx, mapA] at h ⊢
        unfold aBuiltin at h ⊢
        split at h
        · rename_i t0 x0 h1 h2 h3
          cases h3
          obtain ⟨z, hz, hy⟩ := pureT_out h
          subst hy
          refine ⟨?_, none_⟩
          unfold pureT
          rw [Tree.out_bind]
          refine ⟨z, ?_, rfl⟩
          split at hs
          · rename_i hev
            rw [hev] at hz ⊢
            unfold aLenR aLenM aLen at hz ⊢
            exact hz
          · rename_i hev
            rw [hev] at hz ⊢
            unfold aLenR aLenM aLen at hz ⊢
            exact hz
          · rename_i hev
            rw [hev] at hz ⊢
            unfold aLenR aLenM aLen at hz ⊢
            exact hz
          · cases hs
        all_goals first | (cases ‹Builtin.len = _›; done) | exact h.elim | skip
      · cases hs
    · cases hs
theorem softE_rs {all : List Oper} {an : List Nat} {slots : List (AVal El)} {j : Nat} {op : Op} {rs : List Nat} {v : AVal El} (h : softE op v = true) (hs : softL all an slots tr j op = some rs) : rs = [] := by
  cases op <;> simp only [softE] at h <;> try (cases h; done)
  simp only [softL] at hs
  split at hs <;> cases hs <;> rfl
theorem softL_upd {all : List Oper} (T : TrOk c Γ all st tr) {j : Nat} {o : Oper} {e : Ent El} (hj : all[j]? = some o) (he : tr[j]? = some e) {rs : List Nat} (hs : softL all (ancs all) st.slots tr j o.op = some rs) (r : Nat) (hr : Dom e.upd r) : r ∈ rs ∧ e.base ≤ r := by
  rcases (T.fact j o e hj he).run with ⟨b, t, hg, _, hv, hu⟩ | ⟨_, hout, _⟩
  · rw [hu] at hr; obtain ⟨_, hr⟩ := hr; simp at hr
  · obtain ⟨h1, h2⟩ := (softL_out hs (fun r _ _ => rfl) hout).2 r hr
    exact ⟨by rw [h1]; exact h2 e he, by omega⟩
theorem lens_at {R : List (Res El)} {tr : List (Ent El)} (h : lens R tr) {i : Nat} {e : Ent El} (he : tr[i]? = some e) : lenU R e.upd := by
  induction tr generalizing i with
  | nil => simp at he
  | cons a es ih =>
    unfold lens at h
    cases i with
    | zero =>
      simp at he; subst he
      split at h
      · rename_i hu; rw [hu]; trivial
      · exact h.1
    | succ i =>
      simp at he
      split at h
      · exact ih h he
      · exact ih h.2 he
theorem lenU_keep {R R' : List (Res El)} {us : List (Nat × Res El)} (h : lenU R us) {r : Nat} {t : TypeId} {xs : List (El t)} (hr : getR R r = .vec t xs) (hr' : ∃ ys : List (El t), getR R' r = .vec t ys ∧ ys.length = xs.length) :
    ∃ ys : List (El t), getR (updR R' us) r = .vec t ys ∧ ys.length = xs.length := by
  induction us generalizing R' with
  | nil => exact hr'
  | cons u us ih =>
    obtain ⟨n, x⟩ := u
    simp only [updR]
    unfold lenU at h
    by_cases hn : r = n
    · subst hn
      rw [hr] at h
      simp only at h
      obtain ⟨h1, h2⟩ := h
      refine ih h2 ?_
      rw [getR_setR, if_pos rfl]
      cases x with
      | vec t' ys =>
        simp only at h1
        obtain ⟨rfl, h1⟩ := h1
        exact ⟨ys, rfl, h1⟩
      | dead => exact h1.elim
      | cells _ _ => exact h1.elim
      | mapS _ _ _ => exact h1.elim
      | mapC _ => exact h1.elim
      | recs _ _ _ _ => exact h1.elim
    · refine ih ?_ (by rw [getR_setR, if_neg hn]; exact hr')
      split at h
      · exact h.2
      · exact h
theorem resF_lens {R0 : List (Res El)} {tr : List (Ent El)} {m : Nat → Bool} {k r : Nat} {R : List (Res El)} {t : TypeId} {xs : List (El t)} (h : ∀ e ∈ tr, lenU R0 e.upd) (h0 : getR R0 r = .vec t xs) (hR : ∃ ys : List (El t), getR R r = .vec t ys ∧ ys.length = xs.length) :
    ∃ ys : List (El t), getR (resF m tr k R) r = .vec t ys ∧ ys.length = xs.length := by
  induction tr generalizing k R with
  | nil => exact hR
  | cons e es ih =>
    simp only [resF]
    refine ih (fun e' he' => h e' (List.mem_cons_of_mem _ he')) ?_
    split
    · exact lenU_keep (h e (List.mem_cons_self ..)) h0 hR
    · exact hR

/-- A slot's value when the operations of 's' have been carried out. -/
def slotF (all : List Oper) (tr : List (Ent El)) (slots : List (AVal El)) (s : Nat → Bool) (t : Tmp) : AVal El :=
  match writerOf all t 0 with
  | none => nth slots t
  | some i => if s i = true then (match tr[i]? with | some e => e.val | none => .top) else nth slots t

/-- What holds when the operations of 's' have been carried out. -/
structure InvD (c : Cx El) (all : List Oper) (st : St El) (tr : List (Ent El)) (I0 : Nat → Prop) (E0 : Env) (a0 : Act) (w0 : World) (s : Nat → Bool) (I : Nat → Prop) (E : Env) (a : Act) (w : World) : Prop where
  hr : HR c.L I w E (resF s tr 0 st.res)
  slots : ∀ t, Rep c.L I w E (slotF all tr st.slots s t) (a.tmps.getD t undef)
  size : a.tmps.size = st.slots.length
  nodefer : a.defers = []
  ext : Ext I0 E0 st.res w0 I E (resF s tr 0 st.res) w
  names : ∀ r, E r ≠ E0 r → ∃ i e, s i = true ∧ tr[i]? = some e ∧ Dom e.upd r ∧ e.base ≤ r
  keeps : Keeps all a0 a
  closed : ∀ i j, s j = true → (natAt (ancs all) j).testBit i = true → s i = true

theorem touches_free {Γ : FuncId → Option (GSpec El)} {R R' : List (Res El)} {base : Nat} {ρ : Operand → AVal El} {o : Op} (h : touches o = false) : aop c Γ R base ρ o = aop c Γ R' base ρ o := by
  cases o <;> simp [touches] at h <;> first | rfl | (rename_i fn _ _; cases fn <;> rfl)

theorem step_d {all : List Oper} (hΓ : ∀ f g, Γ f = some g → GOk c f g) (T : TrOk c Γ all st tr) {I0 : Nat → Prop} {E0 : Env} {a0 : Act} {w0 : World} (hfree : FreeFrom E0 (lenR st.res))
    {s : Nat → Bool} {I : Nat → Prop} {E : Env} {a : Act} {w : World} (h : InvD c all st tr I0 E0 a0 w0 s I E a w) {j : Nat} {o : Oper} (hj : all[j]? = some o) (hns : s j = false)
    (hanc : ∀ i, (natAt (ancs all) j).testBit i = true → s i = true) :
    (∃ b t x, o.guard = some (b, t) ∧ (∀ ops : Array Oper, ops.toList = all → yielded ops a.tmps b = some x) ∧ (x == t) = false ∧
        InvD c all st tr I0 E0 a0 w0 (fun i => i == j || s i) I E (a.put o.dst undef) w) ∨
    ((o.guard = none ∨ ∃ b t x, o.guard = some (b, t) ∧ (∀ ops : Array Oper, ops.toList = all → yielded ops a.tmps b = some x) ∧ (x == t) = true) ∧
      Does c.P o a w fun v w' => ∃ I' E', InvD c all st tr I0 E0 a0 w0 (fun i => i == j || s i) I' E' (a.put o.dst v) w') := by
  have hjl : j < all.length := by
    rcases Nat.lt_or_ge j all.length with h' | h'
    · exact h'
    · rw [List.getElem?_eq_none h'] at hj; cases hj
  have hjt : j < tr.length := by rw [T.len]; exact hjl
  obtain ⟨e, he⟩ : ∃ e, tr[j]? = some e := ⟨tr[j], List.getElem?_eq_getElem hjt⟩
  have hancLt : ∀ i, (natAt (ancs all) j).testBit i = true → i < j := by
    intro i hi
    have key : ∀ (n j : Nat) (o : Oper), j ≤ n → all[j]? = some o → ∀ i, (natAt (ancs all) j).testBit i = true → i < j := by
      intro n
      induction n with
      | zero =>
        intro j o hn hj i hi
        obtain ⟨d, h1, h2, h3⟩ := (ancs_bit hj).1 hi
        have := T.edges j o hj d h1 h2
        omega
      | succ n ih =>
        intro j o hn hj i hi
        obtain ⟨d, h1, h2, h3⟩ := (ancs_bit hj).1 hi
        have hd := T.edges j o hj d h1 h2
        rcases h3 with rfl | ⟨h4, h5⟩
        · exact hd
        · have hdl : d.on < all.length := by
            rcases Nat.lt_or_ge j all.length with h' | h'
            · omega
            · rw [List.getElem?_eq_none h'] at hj; cases hj
          have := ih d.on all[d.on] (by omega) (List.getElem?_eq_getElem hdl) i h5
          omega
    exact key j j o (Nat.le_refl _) hj i hi
  have hancLt' : ∀ (i k : Nat) (p : Oper), all[k]? = some p → (natAt (ancs all) k).testBit i = true → i < k := by
    intro i k p hk
    induction k using Nat.strongRecOn generalizing i p with
    | _ k ih =>
      intro hi
      obtain ⟨d, h1, h2, h3⟩ := (ancs_bit hk).1 hi
      have hd := T.edges k p hk d h1 h2
      rcases h3 with rfl | ⟨h4, h5⟩
      · exact hd
      · have hdl : d.on < all.length := by
          rcases Nat.lt_or_ge k all.length with h' | h'
          · omega
          · rw [List.getElem?_eq_none h'] at hk; cases hk
        have := ih d.on hd i all[d.on] (List.getElem?_eq_getElem hdl) h5
        omega
  have trans : ∀ (i i' k : Nat) (p : Oper), all[k]? = some p → (natAt (ancs all) k).testBit i' = true → (natAt (ancs all) i').testBit i = true → (natAt (ancs all) k).testBit i = true := by
    intro i i' k p hk
    induction k using Nat.strongRecOn generalizing p with
    | _ k ih =>
      intro h1 h2
      obtain ⟨d, g1, g2, g3⟩ := (ancs_bit hk).1 h1
      have hd := T.edges k p hk d g1 g2
      rcases g3 with rfl | ⟨g4, g5⟩
      · exact (ancs_bit hk).2 ⟨d, g1, g2, .inr ⟨hd, h2⟩⟩
      · have hdl : d.on < all.length := by
          rcases Nat.lt_or_ge k all.length with h' | h'
          · omega
          · rw [List.getElem?_eq_none h'] at hk; cases hk
        exact (ancs_bit hk).2 ⟨d, g1, g2, .inr ⟨hd, ih d.on hd all[d.on] (List.getElem?_eq_getElem hdl) g5 h2⟩⟩
  -- what the operation finds
  have ev : ∀ x, Rep c.L I w E (evM all (ancs all) st.slots (tr.take j) j x) (a.eval x) := by
    intro x
    cases x with
    | const v => exact absV_ok v
    | func f => exact .fn (caps := []) (vs := []) rfl rfl (fun i c v hc => by simp at hc)
    | global g => exact .top
    | tmp t =>
      have hs := h.slots t
      simp only [evM]
      unfold slotF at hs
      cases hw : writerOf all t 0 with
      | none => rw [hw] at hs; exact hs
      | some i =>
        rw [hw] at hs
        simp only
        simp only at hs
        split
        · rename_i hb
          have hsi := hanc i hb
          rw [if_pos hsi] at hs
          have hlt := hancLt i hb
          rw [entAt_eq, List.getElem?_take, if_pos hlt]
          exact hs
        · split
          · rename_i hb hor
            have hsi : s i = false := by
              rcases hor with rfl | hor
              · exact hns
              · cases hsi : s i with
                | false => rfl
                | true => have := h.closed j i hsi hor; rw [hns] at this; cases this
            rw [if_neg (by simp [hsi])] at hs
            exact hs
          · exact .top
  have yields : ∀ (b sl : Nat) (x : Bool), dstOf all b = some sl → evM all (ancs all) st.slots (tr.take j) j (.tmp sl) = .bool x → ∀ ops : Array Oper, ops.toList = all → yielded ops a.tmps b = some x := by
    intro b sl x hd hx ops hops
    have hr := ev (.tmp sl)
    rw [hx] at hr
    have hg : (ops[b]?).bind (·.dst) = some sl := by
      rw [dstOf_eq, ← hops] at hd
      simpa using hd
    unfold yielded
    rw [hg]
    simp only [Act.eval] at hr
    have hlt : sl < a.tmps.size := by
      rcases Nat.lt_or_ge sl a.tmps.size with h' | h'
      · exact h'
      · have : a.tmps.getD sl undef = undef := by simp [Array.getD_eq_getD_getElem?, Array.getElem?_eq_none h']
        rw [this] at hr
        generalize hu : undef = u at hr
        cases hr
        simp [undef] at hu
    have he : a.tmps.getD sl undef = a.tmps[sl] := by simp [Array.getD_eq_getD_getElem?, Array.getElem?_eq_getElem hlt]
    rw [he] at hr
    simp only [Option.bind_some, Array.getElem?_eq_getElem hlt]
    generalize a.tmps[sl] = v at hr
    cases hr
    rfl
  -- the new slots
  have slotsNew : ∀ {I' : Nat → Prop} {E' : Env} {w' : World} {v : Value}, (∀ t, Rep c.L I' w' E' (slotF all tr st.slots s t) (a.tmps.getD t undef)) → Rep c.L I' w' E' e.val v →
      ∀ t, Rep c.L I' w' E' (slotF all tr st.slots (fun i => i == j || s i) t) ((a.put o.dst v).tmps.getD t undef) := by
    intro I' E' w' v hold hv t
    have hs := hold t
    by_cases hdt : o.dst = some t
    · have hw : writerOf all t 0 = some j := by
        cases hw : writerOf all t 0 with
        | none => exact absurd hdt (writerOf_spec.2 hw j o hj)
        | some i =>
          obtain ⟨_, p, hp, hpd⟩ := writerOf_spec.1 i hw
          simp only [Nat.sub_zero] at hp
          by_cases hij : i = j
          · rw [hij]
          · exact absurd hpd (T.dst i j o p hj hp hij t hdt)
      unfold slotF
      rw [hw]
      simp only [beq_self_eq_true, Bool.true_or, if_true, he]
      rw [hdt]
      simp only [Act.put]
      have hlt : t < a.tmps.size := by rw [h.size]; exact T.room j o hj t hdt
      rw [Array.getD_eq_getD_getElem?, Array.getElem?_setIfInBounds_self_of_lt hlt]
      exact hv
    · have hput : (a.put o.dst v).tmps.getD t undef = a.tmps.getD t undef := by
        rw [Array.getD_eq_getD_getElem?, Array.getD_eq_getD_getElem?, put_keeps a o v hdt]
      rw [hput]
      have hslot : slotF all tr st.slots (fun i => i == j || s i) t = slotF all tr st.slots s t := by
        unfold slotF
        cases hw : writerOf all t 0 with
        | none => rfl
        | some i =>
          have hij : i ≠ j := by
            rintro rfl
            obtain ⟨_, p, hp, hpd⟩ := writerOf_spec.1 i hw
            simp only [Nat.sub_zero] at hp
            rw [hj] at hp; cases hp
            exact hdt hpd
          simp [hij]
      rw [hslot]
      exact hs
  have keepsNew : ∀ v, Keeps all a0 (a.put o.dst v) := fun v => ⟨(put_size _ _ _).trans h.keeps.1, fun t ht => (put_keeps a o v (ht o (List.mem_of_getElem? hj))).trans (h.keeps.2 t ht)⟩
  have closedNew : ∀ i k, ((k == j || s k) = true) → (natAt (ancs all) k).testBit i = true → (i == j || s i) = true := by
    intro i k hk hi
    simp only [Bool.or_eq_true, beq_iff_eq] at hk ⊢
    rcases hk with rfl | hk
    · exact .inr (hanc i hi)
    · exact .inr (h.closed i k hk hi)
  -- the new resources
  have resNew : ∀ r, getR (resF (fun i => i == j || s i) tr 0 st.res) r = getR (updR (resF s tr 0 st.res) e.upd) r := by
    intro r
    by_cases hd : Dom e.upd r
    · refine resF_last he hd (by simp) (fun i e' hi hlt hd' => ?_) _
      simp only [Nat.zero_add, Bool.or_eq_false_iff, beq_eq_false_iff_ne, ne_eq]
      refine ⟨by omega, ?_⟩
      cases hsi : s i with
      | false => rfl
      | true =>
        have hbelow := T.below j i e e' he hi hlt r hd
        have htj := T.touch j o e hj he r hd
        rcases T.apart j i o e e' hj he hi (by omega) r hd' hbelow htj with h1 | h1 | ⟨h1, _⟩ | ⟨r0, h1, h2⟩
        · have := h.closed j i hsi h1; rw [hns] at this; cases this
        · have := hancLt i h1; omega
        · rw [soft_upd T hj he h1] at hd; obtain ⟨_, hd⟩ := hd; simp at hd
        · exact absurd (softL_upd T hj he h1 r hd).1 h2
    · rw [getR_updR_not hd]
      refine resF_congr (fun i e' hi hd' => ?_) rfl
      simp only [Nat.zero_add]
      have : i ≠ j := by rintro rfl; rw [he] at hi; cases hi; exact hd hd'
      simp [this]
  rcases (T.fact j o e hj he).run with ⟨b, t, hg, ⟨sl, x, h1, h2, h3⟩, hv, hu⟩ | ⟨hg, hout, hupd⟩
  · refine .inl ⟨b, t, x, hg, yields b sl x h1 h2, h3, ?_⟩
    have hres : ∀ r, getR (resF (fun i => i == j || s i) tr 0 st.res) r = getR (resF s tr 0 st.res) r := fun r => by rw [resNew r, hu]; rfl
    have hown : ∀ k, Own E (resF (fun i => i == j || s i) tr 0 st.res) k → Own E (resF s tr 0 st.res) k := by
      rintro k ⟨r, e', g1, g2, g3⟩
      exact ⟨r, e', by rwa [hres] at g1, g2, g3⟩
    refine ⟨h.hr.congr hres, slotsNew h.slots (by rw [hv]; exact .top), (put_size _ _ _).trans h.size, by rw [put_defers]; exact h.nodefer,
      ⟨h.ext.imm, h.ext.env, h.ext.fr, h.ext.immOld, fun k hk => h.ext.ownOld k (hown k hk)⟩, fun r hr => ?_, keepsNew _, closedNew⟩
    obtain ⟨i, e', g1, g2, g3, g4⟩ := h.names r hr
    exact ⟨i, e', by simp [g1], g2, g3, g4⟩
  · refine .inr ⟨?_, ?_⟩
    · rcases hg with hg | ⟨b, t, hg, sl, x, h1, h2, h3⟩
      · exact .inl hg
      · exact .inr ⟨b, t, x, hg, yields b sl x h1 h2, h3⟩
    · -- fewer resources for this operation
      have htake : ∀ r, getR (resF (natAt (ancs all) j).testBit (tr.take j) 0 st.res) r = getR (resF (natAt (ancs all) j).testBit tr 0 st.res) r := fun r =>
        resF_take (fun i hi => by
          cases hb : (natAt (ancs all) j).testBit i with
          | false => rfl
          | true => have := hancLt i hb; omega)
      have hsub0 : touches o.op = true → ∀ r, getR (resF (natAt (ancs all) j).testBit (tr.take j) 0 st.res) r ≠ .dead →
          getR (resF (natAt (ancs all) j).testBit (tr.take j) 0 st.res) r = getR (resF s tr 0 st.res) r ∨ (softE o.op e.val = true ∧ isVecR (getR st.res r) = true ∧ lens st.res tr) ∨ (∃ rs, softL all (ancs all) st.slots tr j o.op = some rs ∧ r ∉ rs) := by
        intro htc r hr
        rw [htake] at hr ⊢
        by_cases hall : ∀ i e', tr[i]? = some e' → Dom e'.upd r → (natAt (ancs all) j).testBit (0 + i) = s (0 + i)
        · exact .inl (resF_congr hall rfl)
        · refine Classical.byContradiction fun hcon => ?_
          obtain ⟨i, hi⟩ := Classical.not_forall.1 hall
          obtain ⟨e', hi⟩ := Classical.not_forall.1 hi
          obtain ⟨h1, hi⟩ := Classical.not_imp.1 hi
          obtain ⟨h2, h3⟩ := Classical.not_imp.1 hi
          simp only [Nat.zero_add] at h3
          have hsi : s i = true ∧ (natAt (ancs all) j).testBit i = false := by
            cases hb : (natAt (ancs all) j).testBit i with
            | true => rw [hb, hanc i hb] at h3; exact absurd rfl h3
            | false => cases hsi : s i with
              | true => exact ⟨rfl, rfl⟩
              | false => rw [hb, hsi] at h3; exact absurd rfl h3
          have hij : i ≠ j := by rintro rfl; rw [hns] at hsi; cases hsi.1
          obtain ⟨p, hp⟩ : ∃ p, all[i]? = some p := by
            rcases Nat.lt_or_ge i all.length with h' | h'
            · exact ⟨_, List.getElem?_eq_getElem h'⟩
            · rw [List.getElem?_eq_none (by rw [T.len]; exact h')] at h1; cases h1
          rcases Nat.lt_or_ge r e'.base with hlt | hge
          · rcases T.apart j i o e e' hj he h1 (Ne.symm hij) r h2 hlt htc with g | g | g
            · have := h.closed j i hsi.1 g; rw [hns] at this; cases this
            · rw [hsi.2] at g; cases g
            · exact hcon (.inr g)
          · -- named anew by 'i': nothing that 'j' waits for has it
            apply hr
            rw [resF_none (fun i' e'' g1 g2 => ?_)]
            · exact getR_ge (Nat.le_trans (T.base i e' h1) hge)
            · simp only [Nat.zero_add]
              cases hb : (natAt (ancs all) j).testBit i' with
              | false => rfl
              | true =>
                exfalso
                rcases Nat.lt_trichotomy i' i with hlt | heq | hgt
                · have := T.below i' i e'' e' g1 h1 hlt r g2; omega
                · subst heq; rw [hsi.2] at hb; cases hb
                · have hb2 := T.below i i' e' e'' h1 g1 hgt r h2
                  have hti := T.touch i p e' hp h1 r h2
                  rcases T.apart i i' p e' e'' hp h1 g1 (by omega) r g2 hb2 hti with g | g | ⟨g, _⟩ | ⟨r0, g, g5⟩
                  · have := trans i i' j o hj hb g; rw [hsi.2] at this; cases this
                  · have := hancLt' i' i p hp g; omega
                  · rw [soft_upd T hp h1 g] at h2; obtain ⟨_, h2⟩ := h2; simp at h2
                  · exact absurd (softL_upd T hp h1 g r h2).1 g5
      have hsub : softE o.op e.val = false → softL all (ancs all) st.slots tr j o.op = none → touches o.op = true → ∀ r, getR (resF (natAt (ancs all) j).testBit (tr.take j) 0 st.res) r ≠ .dead →
          getR (resF (natAt (ancs all) j).testBit (tr.take j) 0 st.res) r = getR (resF s tr 0 st.res) r := fun hs hs' htc r hr => by
        rcases hsub0 htc r hr with h | ⟨h, _⟩ | ⟨r0, h, _⟩
        · exact h
        · rw [hs] at h; cases h
        · rw [hs'] at h; cases h
      have hE : ∀ r x, (r, x) ∈ e.upd → e.base ≤ r → E r = none := by
        intro r x hx hb
        have h0 : E0 r = none := hfree r (Nat.le_trans (T.base j e he) hb)
        cases hEr : E r with
        | none => rfl
        | some q =>
          exfalso
          obtain ⟨i, e', g1, g2, g3, g4⟩ := h.names r (by rw [hEr, h0]; simp)
          have hij : i ≠ j := by rintro rfl; rw [hns] at g1; cases g1
          rcases Nat.lt_or_ge i j with hlt | hge
          · have := T.below i j e' e g2 he hlt r g3; omega
          · have := T.below j i e e' he g2 (by omega) r ⟨x, hx⟩; omega
      -- carried out
      have done : ∀ (Rm : List (Res El)), (aop c Γ Rm e.base (evM all (ancs all) st.slots (tr.take j) j) o.op).Out (e.val, e.upd) → (∀ r, getR Rm r ≠ .dead → getR Rm r = getR (resF s tr 0 st.res) r) →
          (∀ r, Dom e.upd r → (e.base ≤ r ∧ E r = none) ∨ getR Rm r ≠ .dead) → Does c.P o a w fun v w' => ∃ I' E', InvD c all st tr I0 E0 a0 w0 (fun i => i == j || s i) I' E' (a.put o.dst v) w' := by
        intro Rm hout hRm hud
        have hd := aop_ok (a := a) hΓ ev (h.hr.less hRm) hout hE
        intro next Q hn
        refine hd next Q ?_
        rintro v w' ⟨I', E', hp⟩
        have hp' := h.hr.frame hRm hp hud
        refine hn v w' ⟨I', E', ⟨hp'.hr.congr resNew, slotsNew (fun t => h.hr.keepRep hp'.ext (h.slots t)) hp'.rep, (put_size _ _ _).trans h.size, by rw [put_defers]; exact h.nodefer, ?_, ?_, keepsNew _, closedNew⟩⟩
        · have hx := h.ext.trans hp'.ext
          refine ⟨hx.imm, hx.env, hx.fr, hx.immOld, fun k hk => hx.ownOld k ?_⟩
          obtain ⟨r, e', g1, g2, g3⟩ := hk
          exact ⟨r, e', by rwa [resNew] at g1, g2, g3⟩
        · intro r hr
          by_cases hnew : Dom e.upd r ∧ e.base ≤ r
          · exact ⟨j, e, by simp, he, hnew.1, hnew.2⟩
          · have heq := hp'.names r (fun x hx => by
              rcases Nat.lt_or_ge r e.base with h' | h'
              · exact h'
              · exact absurd ⟨⟨x, hx⟩, h'⟩ hnew)
            rw [heq] at hr
            obtain ⟨i, e', g1, g2, g3, g4⟩ := h.names r hr
            exact ⟨i, e', by simp [g1], g2, g3, g4⟩
      cases htc : touches o.op with
      | true =>
        cases hsl : softL all (ancs all) st.slots tr j o.op with
        | some rs =>
          refine done (resF s tr 0 st.res) ?_ (fun r _ => rfl) (fun r hd => ?_)
          · refine (softL_out hsl (fun r hr hd => ?_) hout).1
            rcases hsub0 htc r hd with h1 | ⟨h1, _⟩ | ⟨r2, h1, h2⟩
            · exact h1
            · rw [softE_rs h1 hsl] at hr; cases hr
            · rw [hsl] at h1; cases h1; exact absurd hr h2
          · obtain ⟨x, hx⟩ := hd
            exact .inl ⟨(softL_upd T hj he hsl r ⟨x, hx⟩).2, hE r x hx (softL_upd T hj he hsl r ⟨x, hx⟩).2⟩
        | none =>
        cases hsoft : softE o.op e.val with
        | true =>
          refine done (resF s tr 0 st.res) ?_ (fun r _ => rfl) (fun r hd => ?_)
          · cases hop : o.op <;> rw [hop] at hsoft <;> simp only [softE] at hsoft <;> try (cases hsoft; done)
            rename_i t x i
            rw [hop] at hout
            simp only [aop] at hout ⊢
            obtain ⟨y, hy, hxy⟩ := pureT_out hout
            unfold pureT
            rw [Tree.out_bind]
            refine ⟨y, soft_outR hy (fun r t' xs hg => ?_) (fun r t' xs kk nm hg => ?_), hxy.symm⟩
            rotate_left
            · rcases hsub0 htc r (by rw [hg]; simp) with h1 | ⟨_, h2, h3⟩ | ⟨r0, h2, _⟩
              · rw [← h1]; exact hg
              · cases h0 : getR st.res r with
                | dead => rw [h0] at h2; cases h2
                | cells _ _ => rw [h0] at h2; cases h2
                | mapS _ _ _ => rw [h0] at h2; cases h2
                | mapC _ => rw [h0] at h2; cases h2
                | recs _ _ _ _ => rw [h0] at h2; cases h2
                | vec t0 xs0 =>
                  have hlen := fun (m : Nat → Bool) => resF_lens (m := m) (k := 0) (R := st.res) (tr := tr) (fun e' he' => by
                    obtain ⟨i', hi', rfl⟩ := List.getElem_of_mem he'
                    exact lens_at h3 (List.getElem?_eq_getElem hi')) h0 ⟨xs0, h0, rfl⟩
                  obtain ⟨zs, k3, k4⟩ := hlen (natAt (ancs all) j).testBit
                  rw [htake, k3] at hg
                  cases hg
              · rw [hsl] at h2; cases h2
            rcases hsub0 htc r (by rw [hg]; simp) with h1 | ⟨_, h2, h3⟩ | ⟨r0, h2, _⟩
            · exact ⟨xs, by rw [← h1]; exact hg, rfl⟩
            · cases h0 : getR st.res r with
              | dead => rw [h0] at h2; cases h2
              | cells _ _ => rw [h0] at h2; cases h2
              | mapS _ _ _ => rw [h0] at h2; cases h2
              | mapC _ => rw [h0] at h2; cases h2
              | recs _ _ _ _ => rw [h0] at h2; cases h2
              | vec t0 xs0 =>
                have hlen := fun (m : Nat → Bool) => resF_lens (m := m) (k := 0) (R := st.res) (tr := tr) (fun e' he' => by
                  obtain ⟨i', hi', rfl⟩ := List.getElem_of_mem he'
                  exact lens_at h3 (List.getElem?_eq_getElem hi')) h0 ⟨xs0, h0, rfl⟩
                obtain ⟨ys, k1, k2⟩ := hlen s
                obtain ⟨zs, k3, k4⟩ := hlen (natAt (ancs all) j).testBit
                rw [htake, k3] at hg
                cases hg
                exact ⟨ys, k1, k2.trans k4.symm⟩
            · rw [hsl] at h2; cases h2
          · rw [soft_upd T hj he hsoft] at hd; obtain ⟨_, hd⟩ := hd; simp at hd
        | false =>
        refine done _ hout (hsub hsoft hsl htc) (fun r hd => ?_)
        rcases updOk_spec hupd hd with h1 | h1
        · obtain ⟨x, hx⟩ := hd
          exact .inl ⟨h1, hE r x hx h1⟩
        · exact .inr h1
      | false =>
        refine done [] (by rw [touches_free htc (R' := resF (natAt (ancs all) j).testBit (tr.take j) 0 st.res)]; exact hout) (fun r hr => absurd rfl hr) (fun r hd => ?_)
        have := T.touch j o e hj he r hd
        rw [htc] at this; cases this
end main
end Go.Ax
end

/- A verified symbolic executor, part 14: a region that draws its order, as a whole. Over any program; the facts on its types are given with it. -/
section
set_option linter.unusedVariables false
set_option linter.unusedSimpArgs false
namespace Go.Ax
variable {El : TypeId → Type}
section
variable {c : Cx El} {Γ : FuncId → Option (GSpec El)} {ops : Array Oper} {st : St El} {tr : List (Ent El)}

theorem nth_setT (l : List (AVal El)) (d : Option Tmp) (v : AVal El) (t : Tmp) : nth (setT l d v) t = if d = some t ∧ t < l.length then v else nth l t := by
  cases d with
  | none => simp [setT]
  | some d =>
    simp only [setT, setF_eq, nth_eq, List.getD_eq_getElem?_getD, List.getElem?_set, Option.some.injEq]
    by_cases h : d = t
    · subst h
      by_cases hl : d < l.length
      · simp [hl]
      · simp [hl]
    · simp [h]
theorem length_setT (l : List (AVal El)) (d : Option Tmp) (v : AVal El) : (setT l d v).length = l.length := by
  cases d <;> simp [setT, setF_eq]
theorem length_finSlots (os : List Oper) (es : List (Ent El)) (l : List (AVal El)) : (finSlots os es l).length = l.length := by
  induction os generalizing es l with
  | nil => simp [finSlots]
  | cons o os ih => cases es with
    | nil => simp [finSlots]
    | cons e es => simp [finSlots, ih, length_setT]
theorem finSlots_none {os : List Oper} {t : Tmp} (h : ∀ (i : Nat) (o : Oper), os[i]? = some o → o.dst ≠ some t) (es : List (Ent El)) (l : List (AVal El)) : nth (finSlots os es l) t = nth l t := by
  induction os generalizing es l with
  | nil => simp [finSlots]
  | cons o os ih => cases es with
    | nil => simp [finSlots]
    | cons e es =>
      simp only [finSlots]
      rw [ih (fun i o' ho' => h (i + 1) o' (by simpa using ho')), nth_setT, if_neg (fun hh => h 0 o rfl hh.1)]
theorem finSlots_at {os : List Oper} {t : Tmp} {i : Nat} {o : Oper} {es : List (Ent El)} {e : Ent El} {l : List (AVal El)} (ho : os[i]? = some o) (hd : o.dst = some t) (he : es[i]? = some e) (hlt : t < l.length)
    (h : ∀ (k : Nat) (p : Oper), os[k]? = some p → i < k → p.dst ≠ some t) : nth (finSlots os es l) t = e.val := by
  induction os generalizing i es l with
  | nil => simp at ho
  | cons o' os ih =>
    cases es with
    | nil => simp at he
    | cons e' es =>
      simp only [finSlots]
      cases i with
      | zero =>
        simp at ho he; subst ho; subst he
        rw [finSlots_none (fun k p hp => h (k + 1) p (by simpa using hp) (by omega)), nth_setT, if_pos ⟨hd, hlt⟩]
      | succ i =>
        exact ih (by simpa using ho) (by simpa using he) (by rw [length_setT]; exact hlt) (fun k p hp hk => h (k + 1) p (by simpa using hp) (by omega))

theorem finRes_eq (tr : List (Ent El)) (m : Nat → Bool) (k : Nat) (R : List (Res El)) (h : ∀ i, i < tr.length → m (k + i) = true) : resF m tr k R = finRes tr R := by
  induction tr generalizing k R with
  | nil => rfl
  | cons e es ih =>
    simp only [resF, finRes]
    rw [if_pos (by simpa using h 0 (by simp)), ih (k + 1) _ (fun i hi => by
      have := h (i + 1) (by simpa using hi)
      rwa [show k + (i + 1) = k + 1 + i from by omega] at this)]

theorem dom_finRes {tr : List (Ent El)} {R : List (Res El)} : lenR R ≤ lenR (finRes tr R) ∧ ∀ (i : Nat) (e : Ent El), tr[i]? = some e → ∀ r, Dom e.upd r → r < lenR (finRes tr R) := by
  induction tr generalizing R with
  | nil => exact ⟨Nat.le_refl _, fun i e h => by simp at h⟩
  | cons a es ih =>
    simp only [finRes]
    obtain ⟨h1, h2⟩ := ih (R := updR R a.upd)
    have h3 := lenR_updR R a.upd
    refine ⟨Nat.le_trans h3.1 h1, fun i e he r hr => ?_⟩
    cases i with
    | zero => simp at he; subst he; obtain ⟨x, hx⟩ := hr; exact Nat.lt_of_lt_of_le (h3.2 r x hx) h1
    | succ i => exact h2 i e (by simpa using he) r hr

theorem finish_d (T : TrOk c Γ ops.toList st tr) {I0 : Nat → Prop} {E0 : Env} {a0 : Act} {w0 : World} (hfree : FreeFrom E0 (lenR st.res)) {s : Nat → Bool} {I : Nat → Prop} {E : Env} {a : Act} {w : World}
    (h : InvD c ops.toList st tr I0 E0 a0 w0 s I E a w) (hall : ∀ i, i < ops.toList.length → s i = true) :
    HoldS c I E ⟨finSlots ops.toList tr st.slots, finRes tr st.res⟩ a w ∧ Ext I0 E0 st.res w0 I E (finRes tr st.res) w := by
  have hres := finRes_eq tr s 0 st.res (fun i hi => hall _ (by rw [← T.len]; simpa using hi))
  refine ⟨⟨by rw [← hres]; exact h.hr, ?_, ?_, h.nodefer⟩, by rw [← hres]; exact h.ext⟩
  · refine ⟨by rw [length_finSlots]; exact h.size.symm, fun t x v hx hv => ?_⟩
    have hs := h.slots t
    have hx' : nth (finSlots ops.toList tr st.slots) t = x := by rw [nth_eq, List.getD_eq_getElem?_getD, hx]; rfl
    have hv' : a.tmps.getD t undef = v := by rw [Array.getD_eq_getD_getElem?, ← Array.getElem?_toList, hv]; rfl
    have hlt : t < st.slots.length := by
      rcases Nat.lt_or_ge t (finSlots ops.toList tr st.slots).length with h' | h'
      · rwa [length_finSlots] at h'
      · rw [List.getElem?_eq_none h'] at hx; cases hx
    rw [hv'] at hs
    have hslot : slotF ops.toList tr st.slots s t = x := by
      rw [← hx']
      unfold slotF
      cases hw : writerOf ops.toList t 0 with
      | none => exact (finSlots_none (writerOf_spec.2 hw) _ _).symm
      | some i =>
        obtain ⟨_, o, ho, hod⟩ := writerOf_spec.1 i hw
        simp only [Nat.sub_zero] at ho
        have hi : i < ops.toList.length := by
          rcases Nat.lt_or_ge i ops.toList.length with h' | h'
          · exact h'
          · rw [List.getElem?_eq_none h'] at ho; cases ho
        have hit : i < tr.length := by rw [T.len]; exact hi
        simp only [hall i hi, if_true, List.getElem?_eq_getElem hit]
        exact (finSlots_at ho hod (List.getElem?_eq_getElem hit) hlt (fun k p hp hk => T.dst k i o p ho hp (by omega) t hod)).symm
    rw [hslot] at hs
    exact hs
  · intro r hr
    have hd := dom_finRes (tr := tr) (R := st.res)
    have h0 := hfree r (by simp only at hr; omega)
    cases hE : E r with
    | none => rfl
    | some q =>
      obtain ⟨i, e, g1, g2, g3, g4⟩ := h.names r (by rw [hE, h0]; simp)
      have := hd.2 i e g2 r g3
      simp only at hr
      omega

theorem getD_set_true' {listed : Array Bool} {i : Nat} (h : i < listed.size) : (listed.setIfInBounds i true).getD i false = true := by
  rw [Array.getD_eq_getD_getElem?, Array.getElem?_setIfInBounds_self_of_lt h]; rfl

theorem length_filter_ne {l : List Nat} {j : Nat} (h : j ∈ l) : (l.filter (fun i => i != j)).length < l.length := by
  induction l with
  | nil => cases h
  | cons a l ih =>
    simp only [List.filter_cons]
    by_cases ha : a = j
    · subst ha
      simp only [bne_self_eq_false, Bool.false_eq_true, if_false, List.length_cons]
      exact Nat.lt_succ_of_le (List.length_filter_le _ _)
    · rcases List.mem_cons.1 h with rfl | h
      · exact absurd rfl ha
      · rw [if_pos (by simpa using ha)]
        simpa using ih h

theorem wpAny_d (hΓ : ∀ f g, Γ f = some g → GOk c f g) (T : TrOk c Γ ops.toList st tr) {I0 : Nat → Prop} {E0 : Env} {a0 : Act} {w0 : World} (hfree : FreeFrom E0 (lenR st.res)) {Q : Exit → Act → World → Prop}
    (hQ : ∀ a' w' I' E', Ext I0 E0 st.res w0 I' E' (finRes tr st.res) w' → HoldS c I' E' ⟨finSlots ops.toList tr st.slots, finRes tr st.res⟩ a' w' → Keeps ops.toList a0 a' → Names E0 st E' (⟨finSlots ops.toList tr st.slots, finRes tr st.res⟩ : St El) → Q .normal a' w') :
    ∀ (fuel : Nat) (listed : Array Bool) (I : Nat → Prop) (E : Env) (a : Act) (w : World), listed.size = ops.size → ((List.range ops.size).filter fun i => !listed.getD i false).length ≤ fuel →
      InvD c ops.toList st tr I0 E0 a0 w0 (fun i => listed.getD i false) I E a w → wpAny c.P .any ops Q fuel listed a w := by
  have full : ∀ (listed : Array Bool), listed.size = ops.size → Region.ready .any ops listed = [] → ∀ i, i < ops.size → listed.getD i false = true := by
    intro listed hsz hr i
    induction i using Nat.strongRecOn with
    | _ i ih =>
      intro hi
      cases hb : listed.getD i false with
      | true => rfl
      | false =>
        have : i ∈ Region.ready .any ops listed := by
          refine mem_ready.2 ⟨?_, ops[i], Array.getElem?_eq_getElem hi, fun e he hbd => ?_⟩
          · have hil : i < listed.size := by omega
            simpa [Array.getD_eq_getD_getElem?, Array.getElem?_eq_getElem hil] using hb
          · have hlt := T.edges i ops[i] (by simp [hi]) e (by simpa using he) hbd
            exact ih e.on hlt (by omega)
        rw [hr] at this; cases this
  have finish : ∀ (listed : Array Bool) (I : Nat → Prop) (E : Env) (a : Act) (w : World), listed.size = ops.size → InvD c ops.toList st tr I0 E0 a0 w0 (fun i => listed.getD i false) I E a w →
      (∀ i, i < ops.size → listed.getD i false = true) → Q .normal a w := by
    intro listed I E a w hsz h hall
    obtain ⟨h1, h2⟩ := finish_d T hfree h (fun i hi => hall i (by simpa using hi))
    refine hQ a w I E h2 h1 h.keeps ⟨fun r hr => ?_, dom_finRes.1⟩
    refine Classical.byContradiction fun hne => ?_
    obtain ⟨i, e, g1, g2, g3, g4⟩ := h.names r hne
    have := T.base i e g2
    omega
  intro fuel
  induction fuel with
  | zero =>
    intro listed I E a w hsz hcount h
    have hall : ∀ i, i < ops.size → listed.getD i false = true := by
      intro i hi
      cases hb : listed.getD i false with
      | true => rfl
      | false =>
        have : i ∈ (List.range ops.size).filter fun i => !listed.getD i false := List.mem_filter.2 ⟨List.mem_range.2 hi, by simp [hb]⟩
        have hnil : ((List.range ops.size).filter fun i => !listed.getD i false) = [] := List.eq_nil_of_length_eq_zero (by omega)
        rw [hnil] at this
        cases this
    refine ⟨?_, finish listed I E a w hsz h hall⟩
    apply List.eq_nil_iff_forall_not_mem.2
    intro j hj
    obtain ⟨h1, o, ho, _⟩ := mem_ready.1 hj
    have hjs : j < ops.size := (Array.getElem?_eq_some_iff.1 ho).1
    have := hall j hjs
    have hil : j < listed.size := by omega
    simp [Array.getD_eq_getD_getElem?, Array.getElem?_eq_getElem hil] at this h1
    rw [this] at h1; cases h1
  | succ fuel ih =>
    intro listed I E a w hsz hcount h
    refine ⟨fun hr => finish listed I E a w hsz h (full listed hsz hr), fun j hj => ?_⟩
    obtain ⟨h1, o, ho, hedges⟩ := mem_ready.1 hj
    have hjs : j < ops.size := (Array.getElem?_eq_some_iff.1 ho).1
    have hjl : j < listed.size := by omega
    have hns : listed.getD j false = false := by
      simpa [Array.getD_eq_getD_getElem?, Array.getElem?_eq_getElem hjl] using h1
    have hol : ops.toList[j]? = some o := by simpa using ho
    have hanc : ∀ i, (natAt (ancs ops.toList) j).testBit i = true → listed.getD i false = true := by
      intro i hi
      obtain ⟨e, g1, g2, g3⟩ := (ancs_bit hol).1 hi
      have he := hedges e (by simpa using g1) g2
      rcases g3 with rfl | ⟨_, g4⟩
      · exact he
      · exact h.closed i e.on he g4
    have hset : ∀ i, (listed.setIfInBounds j true).getD i false = (i == j || listed.getD i false) := by
      intro i
      by_cases hij : i = j
      · subst hij
        rw [getD_set_true' hjl]
        simp
      · rw [getD_set_ne false (Ne.symm hij)]
        simp [hij]
    have hcount' : ((List.range ops.size).filter fun i => !(listed.setIfInBounds j true).getD i false).length ≤ fuel := by
      have hsub : ((List.range ops.size).filter fun i => !(listed.setIfInBounds j true).getD i false) = ((List.range ops.size).filter fun i => !listed.getD i false).filter (fun i => i != j) := by
        rw [List.filter_filter]
        apply List.filter_congr
        intro i _
        rw [hset i]
        cases hb : (i == j) <;> simp [bne, hb]
      rw [hsub]
      have hmem : j ∈ (List.range ops.size).filter fun i => !listed.getD i false := List.mem_filter.2 ⟨List.mem_range.2 hjs, by simp [hns]⟩
      have := length_filter_ne hmem
      omega
    have hinv : ∀ {I' : Nat → Prop} {E' : Env} {a' : Act} {w' : World}, InvD c ops.toList st tr I0 E0 a0 w0 (fun i => i == j || listed.getD i false) I' E' a' w' →
        InvD c ops.toList st tr I0 E0 a0 w0 (fun i => (listed.setIfInBounds j true).getD i false) I' E' a' w' := by
      intro I' E' a' w' h'
      have : (fun i => (listed.setIfInBounds j true).getD i false) = (fun i => i == j || listed.getD i false) := funext hset
      rw [this]; exact h'
    unfold wpOp
    rw [ho]
    simp only
    rcases step_d (a := a) hΓ T hfree h hol hns hanc with ⟨b, t, x, hg, hy, hxt, h'⟩ | ⟨hg, hdoes⟩
    · rw [if_neg (by simp only [Region.wanted, hg, hy ops rfl]; simpa using hxt)]
      exact ih _ I E _ w (by simpa using hsz) hcount' (hinv h')
    · have hw : Region.wanted o (yielded ops a.tmps) = true := by
        rcases hg with hg | ⟨b, t, x, hg, hy, hxt⟩
        · simp [Region.wanted, hg]
        · simp only [Region.wanted, hg, hy ops rfl]; simpa using hxt
      rw [if_pos hw]
      refine .inl (hdoes _ _ ?_)
      rintro v w' ⟨I', E', h'⟩
      exact ih _ I' E' _ w' (by simpa using hsz) hcount' (hinv h')

end

/-! A region that only reads: its operations in the text's order, over slots alone. -/

/-- What an operation looks at. -/
def opsOf : Op → List Operand
  | .move x => [x]
  | .assign x => [x]
  | .nilCheck x => [x]
  | .box _ x => [x]
  | .unOp _ _ x => [x]
  | .convert _ _ x => [x]
  | .load _ x => [x]
  | .fieldAddr _ x _ => [x]
  | .field _ x _ => [x]
  | .extract x _ => [x]
  | .pick a b d => [a, b, d]
  | .build _ parts => parts.toList.map (·.2)
  | .buildSlice _ _ parts => parts.toList.map (·.2)
  | .store _ a x => [a, x]
  | .binOp _ _ x y _ => [x, y]
  | .makeFunc _ first caps => first.toList ++ caps.toList
  | .makeSlice _ l k => [l, k]
  | .slice _ x lo hi mx => x :: (lo.toList ++ (hi.toList ++ mx.toList))
  | .indexAddr _ x i => [x, i]
  | .index _ x i => [x, i]
  | .lookup _ m k _ => [m, k]
  | .mapUpdate _ m k x => [m, k, x]
  | .insert _ m k x => [m, k, x]
  | .call cl => (match cl.callee with | .value (.tmp t) => .tmp t :: cl.args.toList | _ => cl.args.toList)
  | _ => []

theorem mapA_congr {ρ ρ' : Operand → AVal El} {l : List Operand} (h : ∀ x ∈ l, ρ x = ρ' x) : mapA ρ l = mapA ρ' l := by
  induction l with
  | nil => rfl
  | cons x l ih => simp only [mapA]; rw [h x (by simp), ih (fun y hy => h y (by simp [hy]))]
theorem mapP_congr {ρ ρ' : Operand → AVal El} {l : List (Nat × Operand)} (h : ∀ x ∈ l.map (·.2), ρ x = ρ' x) : mapP ρ l = mapP ρ' l := by
  induction l with
  | nil => rfl
  | cons x l ih =>
    obtain ⟨i, x⟩ := x
    simp only [mapP]; rw [h x (by simp), ih (fun y hy => h y (by simp only [List.map_cons]; exact List.mem_cons_of_mem _ hy))]

theorem aop_congr {c : Cx El} {Γ : FuncId → Option (GSpec El)} {R : List (Res El)} {base : Nat} {ρ ρ' : Operand → AVal El} {o : Op} (h : ∀ x ∈ opsOf o, ρ x = ρ' x) : aop c Γ R base ρ o = aop c Γ R base ρ' o := by
  cases o with
  | pick a b d => simp only [aop]; rw [h a (by simp [opsOf]), h b (by simp [opsOf]), h d (by simp [opsOf])]
  | build t parts => simp only [aop]; rw [mapP_congr h]
  | buildSlice t n parts => simp only [aop]; rw [mapP_congr h]
  | makeFunc f first caps =>
    have h1 := mapA_congr (l := first.toList) (fun x hx => h x (List.mem_append_left _ hx))
    have h2 := mapA_congr (l := caps.toList) (fun x hx => h x (List.mem_append_right _ hx))
    cases f <;> simp only [aop]
    cases hf : first.toList with
    | nil => simp only; rw [h2]
    | cons x l => rw [hf] at h1; simp only; rw [h2, h1]
  | slice t x lo hi mx =>
    simp only [aop]
    have h1 : lo.map ρ = lo.map ρ' := by cases lo <;> simp; exact h _ (by simp [opsOf])
    have h2 : hi.map ρ = hi.map ρ' := by cases hi <;> simp; exact h _ (by simp [opsOf])
    have h3 : mx.map ρ = mx.map ρ' := by cases mx <;> simp; exact h _ (by simp [opsOf])
    rw [h x (by simp [opsOf]), h1, h2, h3]
  | call cl =>
    cases cl with | mk callee args ats =>
    cases callee with
    | value v =>
      cases v with
      | tmp t =>
        have ha : mapA ρ args.toList = mapA ρ' args.toList := mapA_congr (fun x hx => h x (by simp only [opsOf]; exact List.mem_cons_of_mem _ hx))
        have ht : ρ (.tmp t) = ρ' (.tmp t) := h _ (by simp [opsOf])
        simp only [aop]; rw [ha, ht]
      | func f =>
        have ha : mapA ρ args.toList = mapA ρ' args.toList := mapA_congr h
        simp only [aop]; rw [ha]
      | _ => simp only [aop]
    | builtin b =>
      have ha : mapA ρ args.toList = mapA ρ' args.toList := mapA_congr h
      simp only [aop]; rw [ha]
    | _ => simp only [aop]
  | move x => simp only [aop]; rw [h x (by simp [opsOf])]
  | assign x => simp only [aop]; rw [h x (by simp [opsOf])]
  | nilCheck x => simp only [aop]; rw [h x (by simp [opsOf])]
  | box e x => simp only [aop]; rw [h x (by simp [opsOf])]
  | unOp u t x => simp only [aop]; rw [h x (by simp [opsOf])]
  | convert s d x => simp only [aop]; rw [h x (by simp [opsOf])]
  | load t x => simp only [aop]; rw [h x (by simp [opsOf])]
  | fieldAddr s x f => simp only [aop]; rw [h x (by simp [opsOf])]
  | field s x f => simp only [aop]; rw [h x (by simp [opsOf])]
  | extract x i => simp only [aop]; rw [h x (by simp [opsOf])]
  | store t a x => simp only [aop]; rw [h a (by simp [opsOf]), h x (by simp [opsOf])]
  | binOp op t x y t' => simp only [aop]; rw [h x (by simp [opsOf]), h y (by simp [opsOf])]
  | makeSlice t l k => simp only [aop]; rw [h l (by simp [opsOf]), h k (by simp [opsOf])]
  | indexAddr t x i => simp only [aop]; rw [h x (by simp [opsOf]), h i (by simp [opsOf])]
  | index t x i => simp only [aop]; rw [h x (by simp [opsOf]), h i (by simp [opsOf])]
  | lookup t m k ok => simp only [aop]; rw [h m (by simp [opsOf]), h k (by simp [opsOf])]
  | mapUpdate t m k x => simp only [aop]; rw [h m (by simp [opsOf]), h k (by simp [opsOf]), h x (by simp [opsOf])]
  | insert t m k x => simp only [aop]; rw [h m (by simp [opsOf]), h k (by simp [opsOf]), h x (by simp [opsOf])]
  | makeMap t r => cases r <;> simp only [aop]
  | _ => simp only [aop]

/-- What operation 'j' looks at is what the text's order shows. -/
def okX (all : List Oper) (an : List Nat) (j : Nat) : Operand → Bool
  | .tmp t => match writerOf all t 0 with
    | none => true
    | some i => if (natAt an j).testBit i = true then Nat.ble (i + 1) j else Nat.ble j i && (Nat.beq i j || (natAt an i).testBit j)
  | _ => true
def okXs (all : List Oper) (an : List Nat) (j : Nat) : List Operand → Bool
  | [] => true
  | x :: xs => okX all an j x && okXs all an j xs
def okBack (j : Nat) : List Edge → Bool
  | [] => true
  | e :: es => (!Region.binds .any e || Nat.ble (e.on + 1) j) && okBack j es
def okSF (all : List Oper) (an : List Nat) (n : Nat) : List Oper → Nat → Bool
  | [], _ => true
  | o :: os, j => okBack j o.after.toList && okXs all an j (opsOf o.op) &&
      (match o.guard with | none => true | some (g, _) => match dstOf all g with | some t => okX all an j (.tmp t) | none => false) &&
      (match o.dst with | none => true | some d => Nat.ble (d + 1) n && (match writerOf all d 0 with | some i => Nat.beq i j | none => false)) && okSF all an n os (j + 1)
def okS (all : List Oper) (n : Nat) : Bool := okSF all (ancs all) n all 0

def shIf {X : Type} (b : Bool) (l : List (AVal El)) (k : List (AVal El) → X) : X := match b with
  | true => k l
  | false => shL l k
theorem shIf_eq {X : Type} (b : Bool) (l : List (AVal El)) (k : List (AVal El) → X) : shIf b l k = k l := by
  cases b
  · exact shL_eq l k
  · rfl

/-- Operations that only read, over slots. None: one did more. -/
def aregionQ (c : Cx El) (Γ : FuncId → Option (GSpec El)) (R : List (Res El)) (base : Nat) (all : List Oper) : List Oper → Option Nat → List (AVal El) → Tree (Option (List (AVal El)))
  | [], _, sl => .leaf (some sl)
  | o :: rest, pg, sl => match o.guard with
    | none => (aop c Γ R base (evA sl) o.op).bind fun y => match y.2 with
      | [] => aregionQ c Γ R base all rest none (setT sl o.dst y.1)
      | _ => .leaf none
    | some (g, want) => shIf (sameG pg g) sl fun sl => match dstOf all g with
      | some t => match nth sl t with
        | .bool b => .node (b == want)
            ((aop c Γ R base (evA (setF sl t (.bool want))) o.op).bind fun y => match y.2 with
              | [] => aregionQ c Γ R base all rest (some g) (setT (setF sl t (.bool want)) o.dst y.1)
              | _ => .leaf none)
            (aregionQ c Γ R base all rest (some g) (setT (setF sl t (.bool !want)) o.dst .top))
        | _ => .fail
      | none => .fail

section quick
variable {c : Cx El} {Γ : FuncId → Option (GSpec El)} {all : List Oper} {st : St El}

theorem okXs_mem {an : List Nat} {j : Nat} {xs : List Operand} (h : okXs all an j xs = true) : ∀ x ∈ xs, okX all an j x = true := by
  induction xs with
  | nil => intro x hx; cases hx
  | cons y ys ih =>
    simp only [okXs, Bool.and_eq_true] at h
    intro x hx
    rcases List.mem_cons.1 hx with rfl | hx
    · exact h.1
    · exact ih h.2 x hx
theorem okBack_mem {j : Nat} {es : List Edge} (h : okBack j es = true) : ∀ e ∈ es, Region.binds .any e = true → e.on < j := by
  induction es with
  | nil => intro e he; cases he
  | cons y ys ih =>
    simp only [okBack, Bool.and_eq_true, Bool.or_eq_true] at h
    intro e he hb
    rcases List.mem_cons.1 he with rfl | he
    · rcases h.1 with h1 | h1
      · rw [hb] at h1; cases h1
      · exact Nat.le_of_ble_eq_true h1
    · exact ih h.2 e he hb

/-- What the check says of one operation. -/
structure QOk (all : List Oper) (n : Nat) (j : Nat) (o : Oper) : Prop where
  back : ∀ e ∈ o.after.toList, Region.binds .any e = true → e.on < j
  opnds : ∀ x ∈ opsOf o.op, okX all (ancs all) j x = true
  guard : ∀ g w, o.guard = some (g, w) → ∀ t, dstOf all g = some t → okX all (ancs all) j (.tmp t) = true
  room : ∀ d, o.dst = some d → d < n
  first : ∀ d, o.dst = some d → writerOf all d 0 = some j

theorem okSF_at {n : Nat} {l : List Oper} {k : Nat} (h : okSF all (ancs all) n l k = true) : ∀ (i : Nat) (o : Oper), l[i]? = some o → QOk all n (k + i) o := by
  induction l generalizing k with
  | nil => intro i o ho; simp at ho
  | cons p os ih =>
    simp only [okSF, Bool.and_eq_true] at h
    obtain ⟨⟨⟨⟨h1, h2⟩, h3⟩, h4⟩, h5⟩ := h
    intro i o ho
    cases i with
    | zero =>
      simp at ho; subst ho
      refine ⟨okBack_mem h1, okXs_mem h2, fun g w hg t ht => ?_, fun d hd => ?_, fun d hd => ?_⟩
      · rw [hg] at h3; simp only [ht] at h3; exact h3
      · rw [hd] at h4; simp only [Bool.and_eq_true] at h4; exact Nat.le_of_ble_eq_true h4.1
      · rw [hd] at h4; simp only [Bool.and_eq_true] at h4
        have := h4.2
        cases hw : writerOf all d 0 with
        | none => rw [hw] at this; cases this
        | some i => rw [hw] at this; simp only at this; rw [Nat.eq_of_beq_eq_true this]; rfl
    | succ i =>
      have := ih h5 i o (by simpa using ho)
      rwa [show k + 1 + i = k + (i + 1) from by omega] at this

theorem okS_at {n : Nat} (h : okS all n = true) {i : Nat} {o : Oper} (ho : all[i]? = some o) : QOk all n i o := by
  have := okSF_at h i o ho
  rwa [Nat.zero_add] at this

theorem okS_dst {n : Nat} (h : okS all n = true) (i j : Nat) (o p : Oper) (ho : all[j]? = some o) (hp : all[i]? = some p) (hij : i ≠ j) (d : Tmp) (hd : o.dst = some d) : p.dst ≠ some d := by
  intro hpd
  have h1 := (okS_at h ho).first d hd
  have h2 := (okS_at h hp).first d hpd
  rw [h1] at h2
  cases h2
  exact hij rfl

theorem resF_quiet {tr : List (Ent El)} (h : ∀ e ∈ tr, e.upd = []) (m : Nat → Bool) (k : Nat) (R : List (Res El)) : resF m tr k R = R := by
  induction tr generalizing k with
  | nil => rfl
  | cons e es ih =>
    simp only [resF]
    rw [h e (by simp)]
    simp only [updR, ite_self]
    exact ih (fun x hx => h x (by simp [hx])) _
theorem finRes_quiet {tr : List (Ent El)} (h : ∀ e ∈ tr, e.upd = []) (R : List (Res El)) : finRes tr R = R := by
  induction tr generalizing R with
  | nil => rfl
  | cons e es ih =>
    simp only [finRes]
    rw [h e (by simp)]
    simp only [updR]
    exact ih (fun x hx => h x (by simp [hx])) _
theorem finSlots_snoc {os : List Oper} {es : List (Ent El)} {o : Oper} {e : Ent El} {l : List (AVal El)} (h : os.length = es.length) : finSlots (os ++ [o]) (es ++ [e]) l = setT (finSlots os es l) o.dst e.val := by
  induction os generalizing es l with
  | nil => cases es with
    | nil => rfl
    | cons _ _ => simp at h
  | cons p os ih => cases es with
    | nil => simp at h
    | cons q es =>
      simp only [List.cons_append, finSlots]
      exact ih (by simpa using h)

theorem evA_evM (hk : okS all st.slots.length = true) {j : Nat} {o : Oper} {tr : List (Ent El)} (ho : all[j]? = some o) (hlen : tr.length = j) {x : Operand} (hx : okX all (ancs all) j x = true) :
    evA (finSlots (all.take j) tr st.slots) x = evM all (ancs all) st.slots tr j x := by
  cases x with
  | tmp t =>
    simp only [evA, evM]
    simp only [okX] at hx
    cases hw : writerOf all t 0 with
    | none =>
      simp only
      exact finSlots_none (fun i p hp => writerOf_spec.2 hw i p (by
        rw [List.getElem?_take] at hp; split at hp
        · exact hp
        · cases hp)) _ _
    | some i =>
      rw [hw] at hx
      simp only at hx ⊢
      obtain ⟨_, p, hp, hpd⟩ := writerOf_spec.1 i hw
      simp only [Nat.sub_zero] at hp
      have hroom := (okS_at hk hp).room t hpd
      split at hx
      · rename_i hb
        have hij : i < j := Nat.le_of_ble_eq_true hx
        rw [if_pos hb, entAt_eq]
        have hi : i < tr.length := by omega
        rw [List.getElem?_eq_getElem hi]
        simp only
        refine finSlots_at (i := i) (o := p) ?_ hpd (List.getElem?_eq_getElem hi) hroom (fun k q hq hik => ?_)
        · rw [List.getElem?_take, if_pos hij]; exact hp
        · rw [List.getElem?_take] at hq
          split at hq
          · exact okS_dst hk k i p q hp hq (by omega) t hpd
          · cases hq
      · rename_i hb
        rw [if_neg hb]
        simp only [Bool.and_eq_true, Bool.or_eq_true] at hx
        have hji : j ≤ i := Nat.le_of_ble_eq_true hx.1
        rw [if_pos (hx.2.imp Nat.eq_of_beq_eq_true id)]
        refine finSlots_none (fun k q hq => ?_) _ _
        rw [List.getElem?_take] at hq
        split at hq
        · exact okS_dst hk k i p q hp hq (by omega) t hpd
        · cases hq
  | _ => rfl

theorem aregionQ_tr (hk : okS all st.slots.length = true) {l : List Oper} {j : Nat} {pg : Option Nat} {tr : List (Ent El)} {sl' : List (AVal El)} (hl : all.drop j = l) (hlen : tr.length = j) (hq : ∀ e ∈ tr, e.upd = [] ∧ e.base = lenR st.res)
    (ho : (aregionQ c Γ st.res (lenR st.res) all l pg (finSlots (all.take j) tr st.slots)).Out (some sl')) :
    ∃ ext, ext.length = l.length ∧ (∀ e ∈ tr ++ ext, e.upd = [] ∧ e.base = lenR st.res) ∧ (∀ (k : Nat) (o : Oper) (e : Ent El), l[k]? = some o → ext[k]? = some e → Fact c Γ all st (tr ++ ext) (j + k) o e) ∧
      sl' = finSlots (all.take (j + l.length)) (tr ++ ext) st.slots := by
  induction l generalizing j pg tr with
  | nil =>
    simp only [aregionQ, Tree.Out, Option.some.injEq] at ho
    exact ⟨[], rfl, by simpa using hq, fun k o e h => by simp at h, by simp [← ho]⟩
  | cons o rest ih =>
    have hj : all[j]? = some o := by
      have := congrArg (fun l => l[0]?) hl
      simpa using this
    have hjl : j < all.length := (List.getElem?_eq_some_iff.1 hj).1
    have hrest : all.drop (j + 1) = rest := by
      have := congrArg List.tail hl
      simpa using this
    have htake : all.take (j + 1) = all.take j ++ [o] := by
      rw [List.take_add_one, hj]; rfl
    have hquiet : ∀ e ∈ tr, e.upd = [] := fun e he => (hq e he).1
    have hsame : ∀ x, okX all (ancs all) j x = true → evA (finSlots (all.take j) tr st.slots) x = evM all (ancs all) st.slots tr j x := fun x hx => evA_evM hk hj hlen hx
    have step : ∀ (x : Ent El) (pg' : Option Nat), x.upd = [] → x.base = lenR st.res → (∀ tr', tr'.take j = tr → Fact c Γ all st tr' j o x) →
        (aregionQ c Γ st.res (lenR st.res) all rest pg' (setT (finSlots (all.take j) tr st.slots) o.dst x.val)).Out (some sl') →
        ∃ ext, ext.length = (o :: rest).length ∧ (∀ e ∈ tr ++ ext, e.upd = [] ∧ e.base = lenR st.res) ∧ (∀ (k : Nat) (o' : Oper) (e : Ent El), (o :: rest)[k]? = some o' → ext[k]? = some e → Fact c Γ all st (tr ++ ext) (j + k) o' e) ∧
          sl' = finSlots (all.take (j + (o :: rest).length)) (tr ++ ext) st.slots := by
      intro x pg' hx hb hf h'
      rw [← finSlots_snoc (by rw [List.length_take, hlen]; omega), ← htake] at h'
      obtain ⟨ext, h1, h2, h3, h4⟩ := ih (tr := tr ++ [x]) hrest (by simp [hlen]) (fun e he => by
        rcases List.mem_append.1 he with he | he
        · exact hq e he
        · rw [List.mem_singleton] at he; subst he; exact ⟨hx, hb⟩) h'
      refine ⟨x :: ext, by simp [h1], by simpa using h2, fun k o' e hk' he => ?_, ?_⟩
      · have e1 : tr ++ x :: ext = tr ++ [x] ++ ext := by simp
        cases k with
        | zero =>
          simp at hk' he; subst hk'; subst he
          exact hf _ (by rw [← hlen, List.take_left])
        | succ k =>
          simp at hk' he
          have := h3 k o' e hk' he
          rw [e1, show j + (k + 1) = j + 1 + k from by omega]
          exact this
      · have e1 : tr ++ x :: ext = tr ++ [x] ++ ext := by simp
        rw [e1, h4, List.length_cons, show j + (rest.length + 1) = j + 1 + rest.length from by omega]
    have wanted : ∀ (pg' : Option Nat), (o.guard = none ∨ ∃ b t, o.guard = some (b, t) ∧ ∃ s x, dstOf all b = some s ∧ evM all (ancs all) st.slots tr j (.tmp s) = .bool x ∧ (x == t) = true) →
        ((aop c Γ st.res (lenR st.res) (evA (finSlots (all.take j) tr st.slots)) o.op).bind fun y => match y.2 with
          | [] => aregionQ c Γ st.res (lenR st.res) all rest pg' (setT (finSlots (all.take j) tr st.slots) o.dst y.1)
          | _ => .leaf none).Out (some sl') →
        ∃ ext, ext.length = (o :: rest).length ∧ (∀ e ∈ tr ++ ext, e.upd = [] ∧ e.base = lenR st.res) ∧ (∀ (k : Nat) (o' : Oper) (e : Ent El), (o :: rest)[k]? = some o' → ext[k]? = some e → Fact c Γ all st (tr ++ ext) (j + k) o' e) ∧
          sl' = finSlots (all.take (j + (o :: rest).length)) (tr ++ ext) st.slots := by
      intro pg' hg h'
      rw [Tree.out_bind] at h'
      obtain ⟨⟨v, u⟩, h1, h2⟩ := h'
      cases u with
      | nil =>
        refine step ⟨v, [], lenR st.res⟩ pg' rfl rfl (fun tr'' ht => ⟨.inr ?_⟩) h2
        rw [ht]
        refine ⟨hg, ?_, rfl⟩
        rw [resF_quiet hquiet]
        rw [aop_congr (fun x hx => hsame x ((okS_at hk hj).opnds x hx))] at h1
        exact h1
      | cons _ _ => simp only [Tree.Out] at h2; cases h2
    simp only [aregionQ] at ho
    split at ho
    · rename_i hg
      exact wanted _ (.inl hg) ho
    · rename_i g want hg
      rw [shIf_eq] at ho
      split at ho
      · rename_i t ht
        split at ho
        · rename_i b hb
          have hev : evM all (ancs all) st.slots tr j (.tmp t) = .bool b := by
            rw [← hsame _ ((okS_at hk hj).guard g want hg t ht)]; exact hb
          simp only [Tree.Out] at ho
          rcases ho with ⟨hbw, ho⟩ | ⟨hbw, ho⟩
          · have hq' : b = want := by simpa using hbw
            rw [setF_same (by rw [hb, hq'])] at ho
            exact wanted _ (.inr ⟨g, want, hg, t, b, ht, hev, hbw⟩) ho
          · have hq' : b = !want := by cases b <;> cases want <;> simp_all
            rw [setF_same (by rw [hb, hq'])] at ho
            refine step ⟨.top, [], lenR st.res⟩ _ rfl rfl (fun tr'' h => ⟨.inl ?_⟩) ho
            rw [h]
            exact ⟨g, want, hg, ⟨t, b, ht, hev, hbw⟩, rfl, rfl⟩
        · exact ho.elim
      · exact ho.elim

theorem not_dom_nil {r : Nat} : ¬ Dom ([] : List (Nat × Res El)) r := by
  rintro ⟨x, hx⟩; simp at hx

theorem aregionQ_trOk (hk : okS all st.slots.length = true) {sl' : List (AVal El)} (ho : (aregionQ c Γ st.res (lenR st.res) all all none st.slots).Out (some sl')) :
    ∃ tr, TrOk c Γ all st tr ∧ (⟨finSlots all tr st.slots, finRes tr st.res⟩ : St El) = ⟨sl', st.res⟩ := by
  obtain ⟨tr, h1, h2, h3, h4⟩ := aregionQ_tr (j := 0) (l := all) (tr := []) hk (by simp) rfl (fun e he => by cases he) (by simpa [finSlots] using ho)
  simp only [List.nil_append] at h2 h3 h4
  have mem : ∀ {j : Nat} {e : Ent El}, tr[j]? = some e → e.upd = [] ∧ e.base = lenR st.res := fun h => h2 _ (List.mem_of_getElem? h)
  refine ⟨tr, ⟨h1, fun j o e ho he => by simpa using h3 j o e ho he, fun j e he => Nat.le_of_eq (mem he).2.symm, fun j j' e e' he he' _ r hr => ?_, fun j o ho d hd hb => (okS_at hk ho).back d hd hb, fun j o e ho he r hr => ?_, fun i j o p ho hp hij d hd => okS_dst hk i j o p ho hp hij d hd,
    fun j o ho d hd => (okS_at hk ho).room d hd, fun i j p q e hp hq he hij r hr => ?_⟩, ?_⟩
  · rw [(mem he).1] at hr; exact absurd hr not_dom_nil
  · rw [(mem he).1] at hr; exact absurd hr not_dom_nil
  · rw [(mem he).1] at hr; exact absurd hr not_dom_nil
  · rw [finRes_quiet (fun e he => (h2 e he).1), h4]
    simp
end quick

/-! The same runs, the slots that were written laid over the others. -/
section over
def look : List (Nat × AVal El) → List (AVal El) → Nat → AVal El
  | [], sl, t => nth sl t
  | (d, v) :: r, sl, t => match Nat.beq d t with
    | true => v
    | false => look r sl t
def flush : List (Nat × AVal El) → List (AVal El) → List (AVal El)
  | [], sl => sl
  | (d, v) :: r, sl => setF (flush r sl) d v
def insA (d : Nat) (v : AVal El) : List (Nat × AVal El) → List (Nat × AVal El)
  | [] => [(d, v)]
  | (e, u) :: r => match Nat.blt d e with
    | true => (d, v) :: (e, u) :: r
    | false => match Nat.beq d e with
      | true => (e, u) :: r
      | false => (e, u) :: insA d v r
def sortA : List (Nat × AVal El) → List (Nat × AVal El) → List (Nat × AVal El)
  | [], acc => acc
  | (d, v) :: r, acc => sortA r (insA d v acc)
def putA : List (AVal El) → List (Nat × AVal El) → Nat → List (AVal El)
  | [], _, _ => []
  | a :: sl, acc, i => match acc with
    | [] => a :: sl
    | (d, v) :: r => match Nat.beq d i with
      | true => v :: putA sl r (i + 1)
      | false => a :: putA sl ((d, v) :: r) (i + 1)
def flushF (ov : List (Nat × AVal El)) (sl : List (AVal El)) : List (AVal El) := putA sl (sortA ov []) 0

def evO (ov : List (Nat × AVal El)) (sl : List (AVal El)) : Operand → AVal El
  | .tmp t => look ov sl t
  | .const v => absV v
  | .func f => .fn f []
  | .global _ => .top
def addO (dst : Option Tmp) (v : AVal El) (ov : List (Nat × AVal El)) : List (Nat × AVal El) := match dst with
  | some d => (d, v) :: ov
  | none => ov
def knows : Option (Nat × Nat × Bool) → Nat → Option Bool
  | some (g, _, q), g' => match Nat.beq g g' with
    | true => some q
    | false => none
  | none, _ => none
def forget : Option (Nat × Nat × Bool) → Option Tmp → Option (Nat × Nat × Bool)
  | some (g, t, q), some d => match Nat.beq d t with
    | true => none
    | false => some (g, t, q)
  | k, _ => k
def roomy (n : Nat) : List Oper → Bool
  | [] => true
  | o :: os => (match o.dst with | none => true | some d => Nat.ble (d + 1) n) && roomy n os
def quietU : Bool → List (Nat × Res El) → Bool
  | true, _ :: _ => false
  | _, _ => true

/-- What stands where an operation was passed over. -/
def skipV (strict : Bool) : AVal El := match strict with
  | true => .top
  | false => .tup []
/-- Operations in the text's order. None: an operation did more than read, and that was barred. -/
def arun (c : Cx El) (Γ : FuncId → Option (GSpec El)) (strict : Bool) (all : List Oper) (sl : List (AVal El)) : List Oper → Option (Nat × Nat × Bool) → List (Nat × AVal El) → List (Res El) → Tree (Option (St El))
  | [], _, ov, R => .leaf (some ⟨flushF ov sl, R⟩)
  | o :: rest, kn, ov, R => match o.guard with
    | none => (aop c Γ R (lenR R) (evO ov sl) o.op).bind fun y => match quietU strict y.2 with
      | true => arun c Γ strict all sl rest (forget kn o.dst) (addO o.dst y.1 ov) (updR R y.2)
      | false => .leaf none
    | some (g, want) => match knows kn g with
      | some q => match q == want with
        | true => (aop c Γ R (lenR R) (evO ov sl) o.op).bind fun y => match quietU strict y.2 with
          | true => arun c Γ strict all sl rest (forget kn o.dst) (addO o.dst y.1 ov) (updR R y.2)
          | false => .leaf none
        | false => arun c Γ strict all sl rest (forget kn o.dst) (addO o.dst (skipV strict) ov) R
      | none => match dstOf all g with
        | some t => match look ov sl t with
          | .bool b => .node (b == want)
              ((aop c Γ R (lenR R) (evO ((t, .bool want) :: ov) sl) o.op).bind fun y => match quietU strict y.2 with
                | true => arun c Γ strict all sl rest (forget (some (g, t, want)) o.dst) (addO o.dst y.1 ((t, .bool want) :: ov)) (updR R y.2)
                | false => .leaf none)
              (arun c Γ strict all sl rest (forget (some (g, t, !want)) o.dst) (addO o.dst (skipV strict) ((t, .bool (!want)) :: ov)) R)
          | .tup l => match l with
            | [] => match strict with
              | false => arun c Γ strict all sl rest (forget kn o.dst) (addO o.dst (skipV strict) ov) R
              | true => .fail
            | _ => .fail
          | _ => .fail
        | none => .fail

theorem roomy_mem {n : Nat} {l : List Oper} (h : roomy n l = true) : ∀ o ∈ l, ∀ d, o.dst = some d → d < n := by
  induction l with
  | nil => intro o ho; cases ho
  | cons p os ih =>
    simp only [roomy, Bool.and_eq_true] at h
    intro o ho d hd
    rcases List.mem_cons.1 ho with rfl | ho
    · rw [hd] at h; exact Nat.le_of_ble_eq_true h.1
    · exact ih h.2 o ho d hd
theorem dstOf_mem {all : List Oper} {g : Nat} {t : Tmp} (h : dstOf all g = some t) : ∃ o ∈ all, o.dst = some t := by
  induction all generalizing g with
  | nil => cases h
  | cons o os ih =>
    cases g with
    | zero => exact ⟨o, by simp, h⟩
    | succ g => obtain ⟨p, h1, h2⟩ := ih h; exact ⟨p, by simp [h1], h2⟩

theorem length_flush (ov : List (Nat × AVal El)) (sl : List (AVal El)) : (flush ov sl).length = sl.length := by
  induction ov with
  | nil => rfl
  | cons p r ih => obtain ⟨d, v⟩ := p; simp [flush, setF_eq, ih]
theorem look_flush {ov : List (Nat × AVal El)} {sl : List (AVal El)} (h : ∀ p ∈ ov, p.1 < sl.length) (t : Nat) : nth (flush ov sl) t = look ov sl t := by
  induction ov with
  | nil => rfl
  | cons p r ih =>
    obtain ⟨d, v⟩ := p
    simp only [flush, look]
    have := nth_setT (flush r sl) (some d) v t
    simp only [setT] at this
    rw [this]
    cases hb : Nat.beq d t with
    | true =>
      have := Nat.eq_of_beq_eq_true hb
      subst this
      rw [if_pos ⟨rfl, by rw [length_flush]; exact h (d, v) (by simp)⟩]
    | false =>
      have : d ≠ t := by intro h; subst h; rw [Nat.beq_refl] at hb; cases hb
      rw [if_neg (fun h => this (by simpa using h.1))]
      exact ih (fun p hp => h p (by simp [hp]))
theorem evO_eq {ov : List (Nat × AVal El)} {sl : List (AVal El)} (h : ∀ p ∈ ov, p.1 < sl.length) : evO ov sl = evA (flush ov sl) := by
  funext x
  cases x with
  | tmp t => exact (look_flush h t).symm
  | _ => rfl
theorem flush_addO (dst : Option Tmp) (v : AVal El) (ov : List (Nat × AVal El)) (sl : List (AVal El)) : flush (addO dst v ov) sl = setT (flush ov sl) dst v := by
  cases dst <;> rfl
theorem addO_room {dst : Option Tmp} {v : AVal El} {ov : List (Nat × AVal El)} {n : Nat} (h : ∀ p ∈ ov, p.1 < n) (hd : ∀ d, dst = some d → d < n) : ∀ p ∈ addO dst v ov, p.1 < n := by
  cases dst with
  | none => exact h
  | some d =>
    intro p hp
    rcases List.mem_cons.1 hp with rfl | hp
    · exact hd d rfl
    · exact h p hp

/-! The overlay laid into the slots at one go. -/
def lookF : List (Nat × AVal El) → (Nat → AVal El) → Nat → AVal El
  | [], fb, t => fb t
  | (d, v) :: r, fb, t => if d = t then v else lookF r fb t
theorem look_lookF (ov : List (Nat × AVal El)) (sl : List (AVal El)) (t : Nat) : look ov sl t = lookF ov (nth sl) t := by
  induction ov with
  | nil => rfl
  | cons p r ih =>
    obtain ⟨d, v⟩ := p
    simp only [look, lookF]
    cases hb : Nat.beq d t with
    | true => rw [if_pos (Nat.eq_of_beq_eq_true hb)]
    | false => rw [if_neg (by intro h; subst h; rw [Nat.beq_refl] at hb; cases hb)]; exact ih
theorem lookF_congr {ov : List (Nat × AVal El)} {f g : Nat → AVal El} {t : Nat} (h : f t = g t) : lookF ov f t = lookF ov g t := by
  induction ov with
  | nil => exact h
  | cons p r ih => obtain ⟨d, v⟩ := p; simp only [lookF]; rw [ih]
theorem lookF_not {ov : List (Nat × AVal El)} {f : Nat → AVal El} {t : Nat} (h : ∀ p ∈ ov, p.1 ≠ t) : lookF ov f t = f t := by
  induction ov with
  | nil => rfl
  | cons p r ih =>
    obtain ⟨d, v⟩ := p
    simp only [lookF]
    rw [if_neg (h (d, v) (by simp)), ih (fun p hp => h p (by simp [hp]))]
def Asc (l : List (Nat × AVal El)) : Prop := l.Pairwise fun p q => p.1 < q.1
theorem insA_spec {d : Nat} {v : AVal El} {acc : List (Nat × AVal El)} (h : Asc acc) : Asc (insA d v acc) ∧ (∀ p ∈ insA d v acc, p = (d, v) ∨ p ∈ acc) ∧ ∀ (fb : Nat → AVal El) t, lookF (insA d v acc) fb t = lookF acc (lookF [(d, v)] fb) t := by
  induction acc with
  | nil => exact ⟨by simp [Asc, insA], fun p hp => by simpa [insA] using hp, fun fb t => rfl⟩
  | cons q r ih =>
    obtain ⟨e, u⟩ := q
    obtain ⟨h1, h2⟩ := List.pairwise_cons.1 h
    obtain ⟨i1, i2, i3⟩ := ih h2
    simp only [insA]
    cases hlt : Nat.blt d e with
    | true =>
      have hde : d < e := Nat.le_of_ble_eq_true hlt
      simp only
      refine ⟨List.pairwise_cons.2 ⟨fun p hp => ?_, h⟩, fun p hp => List.mem_cons.1 hp, fun fb t => ?_⟩
      · rcases List.mem_cons.1 hp with rfl | hp
        · exact hde
        · exact Nat.lt_trans hde (h1 p hp)
      · by_cases ht : d = t
        · subst ht
          have hno : ∀ p ∈ (e, u) :: r, p.1 ≠ d := by
            intro p hp hpe
            rcases List.mem_cons.1 hp with rfl | hp
            · simp only at hpe; omega
            · have := h1 p hp; simp only at this; omega
          rw [lookF_not hno]
          simp [lookF]
        · have e1 : lookF [(d, v)] fb t = fb t := by simp [lookF, ht]
          rw [show lookF ((d, v) :: (e, u) :: r) fb t = lookF ((e, u) :: r) fb t from by rw [lookF, if_neg ht]]
          exact (lookF_congr e1).symm
    | false =>
      have hde : e ≤ d := by
        rcases Nat.lt_or_ge d e with h' | h'
        · have := Nat.ble_eq_true_of_le h'
          unfold Nat.blt at hlt
          rw [this] at hlt; cases hlt
        · exact h'
      cases hb : Nat.beq d e with
      | true =>
        have := Nat.eq_of_beq_eq_true hb
        subst this
        simp only
        refine ⟨h, fun p hp => .inr hp, fun fb t => ?_⟩
        simp only [lookF]
        by_cases ht : d = t
        · simp [ht]
        · rw [if_neg ht, if_neg ht]
          exact (lookF_congr (by simp [ht])).symm
      | false =>
        have hne : d ≠ e := by intro h; subst h; rw [Nat.beq_refl] at hb; cases hb
        simp only
        refine ⟨List.pairwise_cons.2 ⟨fun p hp => ?_, i1⟩, fun p hp => ?_, fun fb t => ?_⟩
        · rcases i2 p hp with rfl | hp
          · simp only; omega
          · exact h1 p hp
        · rcases List.mem_cons.1 hp with rfl | hp
          · exact .inr (by simp)
          · exact (i2 p hp).imp id (fun h => by simp [h])
        · rw [lookF, i3 fb t]; rfl
theorem sortA_spec {ov acc : List (Nat × AVal El)} (h : Asc acc) : Asc (sortA ov acc) ∧ ∀ (fb : Nat → AVal El) t, lookF (sortA ov acc) fb t = lookF acc (lookF ov fb) t := by
  induction ov generalizing acc with
  | nil => exact ⟨h, fun fb t => rfl⟩
  | cons p r ih =>
    obtain ⟨d, v⟩ := p
    obtain ⟨h1, h2, h3⟩ := insA_spec (d := d) (v := v) h
    obtain ⟨i1, i2⟩ := ih h1
    refine ⟨i1, fun fb t => ?_⟩
    simp only [sortA]
    rw [i2, h3]
    exact lookF_congr (by simp [lookF])
theorem putA_spec {sl : List (AVal El)} {acc : List (Nat × AVal El)} {i : Nat} (h : Asc acc) (hi : ∀ p ∈ acc, i ≤ p.1) : (putA sl acc i).length = sl.length ∧ ∀ k, k < sl.length → nth (putA sl acc i) k = lookF acc (fun t => nth sl (t - i)) (k + i) := by
  induction sl generalizing acc i with
  | nil => exact ⟨rfl, fun k hk => absurd hk (by simp)⟩
  | cons a sl ih =>
    cases acc with
    | nil => exact ⟨rfl, fun k hk => by simp [putA, lookF]⟩
    | cons q r =>
      obtain ⟨d, v⟩ := q
      obtain ⟨h1, h2⟩ := List.pairwise_cons.1 h
      have hdi := hi (d, v) (by simp)
      simp only [putA]
      cases hb : Nat.beq d i with
      | true =>
        have := Nat.eq_of_beq_eq_true hb
        subst this
        simp only
        obtain ⟨j1, j2⟩ := ih (acc := r) (i := d + 1) h2 (fun p hp => h1 p hp)
        refine ⟨by simp [j1], fun k hk => ?_⟩
        cases k with
        | zero => simp [nth, lookF]
        | succ k =>
          simp only [nth, lookF]
          rw [if_neg (by omega), j2 k (by simpa using hk), show k + 1 + d = k + (d + 1) from by omega]
          refine lookF_congr ?_
          rw [show k + (d + 1) - (d + 1) = k from by omega, show k + (d + 1) - d = k + 1 from by omega]
          rfl
      | false =>
        have hne : d ≠ i := by intro h; subst h; rw [Nat.beq_refl] at hb; cases hb
        simp only at hdi ⊢
        obtain ⟨j1, j2⟩ := ih (acc := (d, v) :: r) (i := i + 1) h (fun p hp => by
          rcases List.mem_cons.1 hp with rfl | hp
          · simp only; omega
          · have := h1 p hp; simp only at this; omega)
        refine ⟨by simp [j1], fun k hk => ?_⟩
        cases k with
        | zero =>
          simp only [nth, Nat.zero_add]
          rw [lookF_not (fun p hp => by
            rcases List.mem_cons.1 hp with rfl | hp
            · exact hne
            · have := h1 p hp; simp only at this; omega)]
          simp [nth]
        | succ k =>
          simp only [nth]
          rw [j2 k (by simpa using hk), show k + 1 + i = k + (i + 1) from by omega]
          refine lookF_congr ?_
          rw [show k + (i + 1) - (i + 1) = k from by omega, show k + (i + 1) - i = k + 1 from by omega]
          rfl
theorem flushF_eq {ov : List (Nat × AVal El)} {sl : List (AVal El)} (h : ∀ p ∈ ov, p.1 < sl.length) : flushF ov sl = flush ov sl := by
  obtain ⟨s1, s2⟩ := sortA_spec (ov := ov) (acc := []) (by simp [Asc])
  obtain ⟨p1, p2⟩ := putA_spec (sl := sl) (i := 0) s1 (fun p _ => Nat.zero_le _)
  refine List.ext_getElem (by rw [length_flush]; exact p1) (fun k h1 h2 => ?_)
  have hk : k < sl.length := by rwa [length_flush] at h2
  have e1 := p2 k hk
  have e2 := look_flush h k
  rw [look_lookF] at e2
  rw [s2] at e1
  simp only [Nat.add_zero, Nat.sub_zero, lookF] at e1
  have e3 : nth (putA sl (sortA ov []) 0) k = nth (flush ov sl) k := by rw [e1, e2]
  rw [nth_eq, nth_eq, List.getD_eq_getElem?_getD, List.getD_eq_getElem?_getD, List.getElem?_eq_getElem h2, List.getElem?_eq_getElem (by rw [p1]; exact hk)] at e3
  exact e3

/-- What is known of a guard. -/
def KnOk (all : List Oper) (sl : List (AVal El)) (kn : Option (Nat × Nat × Bool)) (ov : List (Nat × AVal El)) : Prop := ∀ g t q, kn = some (g, t, q) → dstOf all g = some t ∧ look ov sl t = .bool q
theorem KnOk.forget {all : List Oper} {sl : List (AVal El)} {kn : Option (Nat × Nat × Bool)} {ov : List (Nat × AVal El)} (h : KnOk all sl kn ov) (dst : Option Tmp) (v : AVal El) : KnOk all sl (forget kn dst) (addO dst v ov) := by
  intro g t q hk
  cases dst with
  | none =>
    cases kn with
    | none => cases hk
    | some p => obtain ⟨g', t', q'⟩ := p; exact h g t q hk
  | some d =>
    cases kn with
    | none => cases hk
    | some p =>
      obtain ⟨g', t', q'⟩ := p
      simp only [Ax.forget] at hk
      split at hk
      · cases hk
      · rename_i hb
        obtain ⟨h1, h2⟩ := h g t q hk
        cases hk
        refine ⟨h1, ?_⟩
        simp only [addO, look, hb]
        exact h2
theorem knows_some {kn : Option (Nat × Nat × Bool)} {g : Nat} {q : Bool} (h : knows kn g = some q) : ∃ t, kn = some (g, t, q) := by
  cases kn with
  | none => cases h
  | some p =>
    obtain ⟨g', t', q'⟩ := p
    simp only [knows] at h
    split at h
    · rename_i hb
      have := Nat.eq_of_beq_eq_true hb
      subst this
      cases h
      exact ⟨t', rfl⟩
    · cases h
theorem KnOk.told {all : List Oper} {sl : List (AVal El)} {g t : Nat} {q : Bool} {ov : List (Nat × AVal El)} (h : dstOf all g = some t) : KnOk all sl (some (g, t, q)) ((t, .bool q) :: ov) := by
  intro g' t' q' hk
  cases hk
  exact ⟨h, by simp [look]⟩

variable {c : Cx El} {Γ : FuncId → Option (GSpec El)} {all : List Oper} {sl : List (AVal El)}

theorem arun_list {l : List Oper} {kn : Option (Nat × Nat × Bool)} {pg : Option Nat} {ov : List (Nat × AVal El)} {R : List (Res El)} {y : Option (St El)} (hall : ∀ g t, dstOf all g = some t → t < sl.length) (hl : ∀ o ∈ l, ∀ d, o.dst = some d → d < sl.length)
    (hov : ∀ p ∈ ov, p.1 < sl.length) (hkn : KnOk all sl kn ov) (ho : (arun c Γ false all sl l kn ov R).Out y) : ∃ st', y = some st' ∧ (aregion c Γ all l pg ⟨flush ov sl, R⟩).Out st' := by
  induction l generalizing kn pg ov R with
  | nil =>
    simp only [arun, Tree.Out, flushF_eq hov] at ho
    exact ⟨_, ho.symm, rfl⟩
  | cons o rest ih =>
    have hd := hl o (by simp)
    have hr : ∀ o ∈ rest, ∀ d, o.dst = some d → d < sl.length := fun o ho => hl o (by simp [ho])
    have run : ∀ (kn : Option (Nat × Nat × Bool)) (ov : List (Nat × AVal El)) (pg' : Option Nat), (∀ p ∈ ov, p.1 < sl.length) → KnOk all sl kn ov →
        ((aop c Γ R (lenR R) (evO ov sl) o.op).bind fun y => match quietU false y.2 with
          | true => arun c Γ false all sl rest (forget kn o.dst) (addO o.dst y.1 ov) (updR R y.2)
          | false => .leaf none).Out y →
        ∃ st', y = some st' ∧ ((aop c Γ R (lenR R) (evA (flush ov sl)) o.op).bind fun y => aregion c Γ all rest pg' ⟨setT (flush ov sl) o.dst y.1, updR R y.2⟩).Out st' := by
      intro kn ov pg' hov hkn h
      rw [Tree.out_bind] at h
      obtain ⟨z, h1, h2⟩ := h
      have hq : quietU false z.2 = true := by cases z.2 <;> rfl
      rw [hq] at h2
      simp only at h2
      obtain ⟨st', e, h3⟩ := ih (pg := pg') hr (addO_room hov hd) (hkn.forget o.dst z.1) h2
      refine ⟨st', e, ?_⟩
      rw [Tree.out_bind]
      rw [flush_addO] at h3
      rw [evO_eq hov] at h1
      exact ⟨z, h1, h3⟩
    simp only [arun] at ho
    simp only [aregion]
    cases hg : o.guard with
    | none =>
      rw [hg] at ho
      exact run kn ov none hov hkn ho
    | some p =>
      obtain ⟨g, want⟩ := p
      rw [hg] at ho
      simp only at ho ⊢
      rw [shSt_eq]
      cases hk : knows kn g with
      | some q =>
        rw [hk] at ho
        simp only at ho
        obtain ⟨t, hkt⟩ := knows_some hk
        obtain ⟨k1, k2⟩ := hkn g t q hkt
        have hn : nth (flush ov sl) t = .bool q := by rw [look_flush hov]; exact k2
        simp only [k1, hn]
        cases hqw : q == want with
        | true =>
          rw [hqw] at ho
          simp only at ho
          have hqw' : q = want := by simpa using hqw
          obtain ⟨st', e, h3⟩ := run kn ov (some g) hov hkn ho
          refine ⟨st', e, .inl ⟨rfl, ?_⟩⟩
          rw [setF_same (by rw [hn, hqw'])]
          exact h3
        | false =>
          rw [hqw] at ho
          simp only at ho
          have hqw' : q = !want := by cases q <;> cases want <;> simp_all
          obtain ⟨st', e, h3⟩ := ih (pg := some g) hr (addO_room hov hd) (hkn.forget o.dst (.tup [])) ho
          refine ⟨st', e, .inr ⟨rfl, ?_⟩⟩
          rw [setF_same (by rw [hn, hqw'])]
          rw [flush_addO] at h3
          exact h3
      | none =>
        rw [hk] at ho
        simp only at ho
        cases ht : dstOf all g with
        | none => rw [ht] at ho; exact ho.elim
        | some t =>
          rw [ht] at ho
          simp only at ho
          have hov' : ∀ v : AVal El, ∀ p ∈ (t, v) :: ov, p.1 < sl.length := by
            intro v p hp
            rcases List.mem_cons.1 hp with rfl | hp
            · exact hall g t ht
            · exact hov p hp
          split at ho
          · rename_i b hb
            have hn : nth (flush ov sl) t = .bool b := by rw [look_flush hov]; exact hb
            simp only [hn]
            simp only [Tree.Out] at ho
            rcases ho with ⟨hbw, ho⟩ | ⟨hbw, ho⟩
            · obtain ⟨st', e, h3⟩ := run _ _ (some g) (hov' _) (KnOk.told ht) ho
              exact ⟨st', e, .inl ⟨hbw, h3⟩⟩
            · obtain ⟨st', e, h3⟩ := ih (pg := some g) hr (addO_room (hov' _) hd) ((KnOk.told ht).forget o.dst (.tup [])) ho
              rw [flush_addO] at h3
              exact ⟨st', e, .inr ⟨hbw, h3⟩⟩
          · split at ho
            · rename_i hb
              have hn : nth (flush ov sl) t = .tup [] := by rw [look_flush hov]; exact hb
              simp only [hn]
              obtain ⟨st', e, h3⟩ := ih (pg := some g) hr (addO_room hov hd) (hkn.forget o.dst (.tup [])) ho
              rw [flush_addO] at h3
              exact ⟨st', e, h3⟩
            · exact ho.elim
          · exact ho.elim

theorem arun_quiet {l : List Oper} {kn : Option (Nat × Nat × Bool)} {pg : Option Nat} {ov : List (Nat × AVal El)} {R : List (Res El)} {st' : St El} (hall : ∀ g t, dstOf all g = some t → t < sl.length) (hl : ∀ o ∈ l, ∀ d, o.dst = some d → d < sl.length)
    (hov : ∀ p ∈ ov, p.1 < sl.length) (hkn : KnOk all sl kn ov) (ho : (arun c Γ true all sl l kn ov R).Out (some st')) : st'.res = R ∧ (aregionQ c Γ R (lenR R) all l pg (flush ov sl)).Out (some st'.slots) := by
  induction l generalizing kn pg ov with
  | nil =>
    simp only [arun, Tree.Out, Option.some.injEq, flushF_eq hov] at ho
    subst ho
    exact ⟨rfl, rfl⟩
  | cons o rest ih =>
    have hd := hl o (by simp)
    have hr : ∀ o ∈ rest, ∀ d, o.dst = some d → d < sl.length := fun o ho => hl o (by simp [ho])
    have run : ∀ (kn : Option (Nat × Nat × Bool)) (ov : List (Nat × AVal El)) (pg' : Option Nat), (∀ p ∈ ov, p.1 < sl.length) → KnOk all sl kn ov →
        ((aop c Γ R (lenR R) (evO ov sl) o.op).bind fun y => match quietU true y.2 with
          | true => arun c Γ true all sl rest (forget kn o.dst) (addO o.dst y.1 ov) (updR R y.2)
          | false => .leaf none).Out (some st') →
        st'.res = R ∧ ((aop c Γ R (lenR R) (evA (flush ov sl)) o.op).bind fun y => match y.2 with
          | [] => aregionQ c Γ R (lenR R) all rest pg' (setT (flush ov sl) o.dst y.1)
          | _ => .leaf none).Out (some st'.slots) := by
      intro kn ov pg' hov hkn h
      rw [Tree.out_bind] at h
      obtain ⟨⟨v, u⟩, h1, h2⟩ := h
      cases u with
      | cons x xs => simp only [quietU, Tree.Out] at h2; cases h2
      | nil =>
        simp only [quietU, updR] at h2
        obtain ⟨e, h3⟩ := ih (pg := pg') hr (addO_room hov hd) (hkn.forget o.dst v) h2
        refine ⟨e, ?_⟩
        rw [Tree.out_bind]
        rw [flush_addO] at h3
        rw [evO_eq hov] at h1
        exact ⟨(v, []), h1, h3⟩
    simp only [arun] at ho
    simp only [aregionQ]
    cases hg : o.guard with
    | none =>
      rw [hg] at ho
      exact run kn ov none hov hkn ho
    | some p =>
      obtain ⟨g, want⟩ := p
      rw [hg] at ho
      simp only at ho ⊢
      rw [shIf_eq]
      cases hk : knows kn g with
      | some q =>
        rw [hk] at ho
        simp only at ho
        obtain ⟨t, hkt⟩ := knows_some hk
        obtain ⟨k1, k2⟩ := hkn g t q hkt
        have hn : nth (flush ov sl) t = .bool q := by rw [look_flush hov]; exact k2
        simp only [k1, hn]
        cases hqw : q == want with
        | true =>
          rw [hqw] at ho
          simp only at ho
          have hqw' : q = want := by simpa using hqw
          obtain ⟨e, h3⟩ := run kn ov (some g) hov hkn ho
          refine ⟨e, .inl ⟨rfl, ?_⟩⟩
          rw [setF_same (by rw [hn, hqw'])]
          exact h3
        | false =>
          rw [hqw] at ho
          simp only at ho
          have hqw' : q = !want := by cases q <;> cases want <;> simp_all
          obtain ⟨e, h3⟩ := ih (pg := some g) hr (addO_room hov hd) (hkn.forget o.dst .top) ho
          refine ⟨e, .inr ⟨rfl, ?_⟩⟩
          rw [setF_same (by rw [hn, hqw'])]
          rw [flush_addO] at h3
          exact h3
      | none =>
        rw [hk] at ho
        simp only at ho
        cases ht : dstOf all g with
        | none => rw [ht] at ho; exact ho.elim
        | some t =>
          rw [ht] at ho
          simp only at ho
          have hov' : ∀ v : AVal El, ∀ p ∈ (t, v) :: ov, p.1 < sl.length := by
            intro v p hp
            rcases List.mem_cons.1 hp with rfl | hp
            · exact hall g t ht
            · exact hov p hp
          split at ho
          · rename_i b hb
            have hn : nth (flush ov sl) t = .bool b := by rw [look_flush hov]; exact hb
            simp only [hn]
            simp only [Tree.Out] at ho
            rcases ho with ⟨hbw, ho⟩ | ⟨hbw, ho⟩
            · obtain ⟨e, h3⟩ := run _ _ (some g) (hov' _) (KnOk.told ht) ho
              exact ⟨e, .inl ⟨hbw, h3⟩⟩
            · obtain ⟨e, h3⟩ := ih (pg := some g) hr (addO_room (hov' _) hd) ((KnOk.told ht).forget o.dst .top) ho
              rw [flush_addO] at h3
              exact ⟨e, .inr ⟨hbw, h3⟩⟩
          · split at ho <;> exact ho.elim
          · exact ho.elim

/-- A region in the text's order. -/
def aregionL (c : Cx El) (Γ : FuncId → Option (GSpec El)) (all : List Oper) (st : St El) : Tree (St El) := match roomy (lenA st.slots) all with
  | true => (arun c Γ false all st.slots all none [] st.res).bind fun y => match y with
    | some st' => .leaf st'
    | none => .fail
  | false => aregion c Γ all all none st

theorem aregionL_list {st st' : St El} (ho : (aregionL c Γ all st).Out st') : (aregion c Γ all all none st).Out st' := by
  unfold aregionL at ho
  split at ho
  · rename_i hk
    rw [lenA_eq] at hk
    rw [Tree.out_bind] at ho
    obtain ⟨y, h1, h2⟩ := ho
    obtain ⟨st'', e, h3⟩ := arun_list (pg := none) (fun g t ht => by
      obtain ⟨o, ho, hd⟩ := dstOf_mem ht
      exact roomy_mem hk o ho t hd) (roomy_mem hk) (fun p hp => by cases hp) (fun g t q hk => by cases hk) h1
    subst e
    simp only [Tree.Out] at h2
    subst h2
    exact h3
  · exact ho
end over

section
variable {c : Cx El} {Γ : FuncId → Option (GSpec El)} {ops : Array Oper} {st : St El} {tr : List (Ent El)}

theorem aregionT_ok (hΓ : ∀ f g, Γ f = some g → GOk c f g) {id : Nat} {Q : Exit → Act → World → Prop} {I : Nat → Prop} {E : Env} {a : Act} {w : World} (T : TrOk c Γ ops.toList st tr)
    (h : HoldS c I E st a w) (hQ : ∀ a' w' I' E', Ext I E st.res w I' E' (finRes tr st.res) w' → HoldS c I' E' ⟨finSlots ops.toList tr st.slots, finRes tr st.res⟩ a' w' → Keeps ops.toList a a' → Names E st E' (⟨finSlots ops.toList tr st.slots, finRes tr st.res⟩ : St El) → Q .normal a' w') : (Code.region id ops true).wp c.P Q a w := by
  refine wp_region_any c.mixed (wpAny_d hΓ T h.free hQ ops.size _ I E a w.drew (by simp) ?_ ?_)
  · exact Nat.le_trans (List.length_filter_le _ _) (by simp)
  · have hf := Fr.drew w
    have hno : (fun i => (Array.replicate ops.size false).getD i false) = fun _ => false := by
      funext i
      simp only [Array.getD_eq_getD_getElem?, Array.getElem?_replicate]
      split <;> rfl
    rw [hno]
    have hres : ∀ r, getR (resF (fun _ => false) tr 0 st.res) r = getR st.res r := fun r => resF_none (fun _ _ _ _ => rfl)
    have hslots : SlotsOk c I w.drew E st.slots a := Reps.mono h.slots (fun _ h => h) (fun _ _ => rfl) (Env.le_refl _)
    refine ⟨(h.hr.grow hf).congr hres, fun t => ?_, ?_, h.nodefer, ⟨fun _ h => h, Env.le_refl _, hf.weaken (fun _ h => h.elim), fun _ h => .inl h, ?_⟩, fun r hr => absurd rfl hr, ⟨rfl, fun _ _ => rfl⟩, fun i j hj => by cases hj⟩
    · have hslot : slotF ops.toList tr st.slots (fun _ => false) t = nth st.slots t := by
        unfold slotF
        split <;> simp
      rw [hslot]
      have := hslots.getD t undef
      simpa [Array.getD_eq_getD_getElem?, List.getD_eq_getElem?_getD] using this
    · exact (Reps.len h.slots).symm
    · rintro b ⟨r, e, g1, g2, g3⟩
      exact .inl ⟨r, e, by rwa [hres] at g1, g2, g3⟩

theorem aregionD_ok (hΓ : ∀ f g, Γ f = some g → GOk c f g) {id : Nat} {Q : Exit → Act → World → Prop} {st' : St El} {I : Nat → Prop} {E : Env} {a : Act} {w : World} (ho : (aregionD c Γ ops.toList st).Out st')
    (h : HoldS c I E st a w) (hQ : ∀ a' w' I' E', Ext I E st.res w I' E' st'.res w' → HoldS c I' E' st' a' w' → Keeps ops.toList a a' → Names E st E' st' → Q .normal a' w') : (Code.region id ops true).wp c.P Q a w := by
  unfold aregionD at ho
  rw [Tree.out_bind] at ho
  obtain ⟨tr, ht, ho⟩ := ho
  obtain ⟨soft, hk, hlens, ho⟩ : ∃ soft, okD soft st.res st.slots ops.toList (ancs ops.toList) tr = true ∧ (soft = true → lens st.res tr) ∧ (⟨finSlots ops.toList tr st.slots, finRes tr st.res⟩ : St El) = st' := by
    split at ho
    · rename_i hk
      exact ⟨false, hk, fun h => (by cases h), ho⟩
    · split at ho
      · rename_i hk
        exact ⟨true, hk, fun _ => ho.1, ho.2⟩
      · exact ho.elim
  · subst ho
    exact aregionT_ok hΓ (trOk_of ht hk hlens) h hQ

/-- A region that draws its order: by slots alone where it only reads. -/
def aregionE (c : Cx El) (Γ : FuncId → Option (GSpec El)) (all : List Oper) (st : St El) : Tree (St El) := match okS all (lenA st.slots) with
  | true => (arun c Γ true all st.slots all none [] st.res).bind fun y => match y with
    | some st' => .leaf ⟨st'.slots, st.res⟩
    | none => aregionD c Γ all st
  | false => aregionD c Γ all st

theorem aregionE_ok (hΓ : ∀ f g, Γ f = some g → GOk c f g) {id : Nat} {Q : Exit → Act → World → Prop} {st' : St El} {I : Nat → Prop} {E : Env} {a : Act} {w : World} (ho : (aregionE c Γ ops.toList st).Out st')
    (h : HoldS c I E st a w) (hQ : ∀ a' w' I' E', Ext I E st.res w I' E' st'.res w' → HoldS c I' E' st' a' w' → Keeps ops.toList a a' → Names E st E' st' → Q .normal a' w') : (Code.region id ops true).wp c.P Q a w := by
  unfold aregionE at ho
  split at ho
  · rename_i hk
    rw [lenA_eq] at hk
    rw [Tree.out_bind] at ho
    obtain ⟨y, h1, h2⟩ := ho
    cases y with
    | none => exact aregionD_ok hΓ h2 h hQ
    | some st1 =>
      simp only [Tree.Out] at h2; subst h2
      have hmem : ∀ o ∈ ops.toList, ∀ d, o.dst = some d → d < st.slots.length := fun o ho d hd => by
        obtain ⟨i, hi⟩ := List.getElem?_of_mem ho
        exact (okS_at hk hi).room d hd
      have h1 := (arun_quiet (pg := none) (fun g t ht => by
        obtain ⟨o, ho, hd⟩ := dstOf_mem ht
        exact hmem o ho t hd) hmem (fun p hp => by cases hp) (fun g t q hk => by cases hk) h1).2
      simp only [flush] at h1
      obtain ⟨tr, T, he⟩ := aregionQ_trOk hk h1
      refine aregionT_ok hΓ T h ?_
      have e1 : finRes tr st.res = st.res := congrArg St.res he
      rw [he, e1]
      exact hQ
  · exact aregionD_ok hΓ ho h hQ

end
end Go.Ax
end
