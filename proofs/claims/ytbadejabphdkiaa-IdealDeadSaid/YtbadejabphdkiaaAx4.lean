/- A verified symbolic executor, part 4: stores, new blocks, arithmetic, conversions, addresses. Over any program; the facts on its types are given with it. -/
import Derived.Test.YtbadejabphdkiaaAx3
set_option linter.unusedVariables false
set_option linter.unusedSimpArgs false
namespace Go.Ax
variable {El : TypeId → Type}

section defs
variable (c : Cx El) (R : List (Res El))

/-- What an operation yields, and which resources it turns or names. -/
abbrev Eff (El : TypeId → Type) := AVal El × List (Nat × Res El)

def aStore (t : TypeId) (a x : AVal El) : Tree (Eff El) :=
  match cellsOf x, (c.P.info? t).map (·.size) with
  | some cs, some n => if cs.length = n then
      match a with
      | .ptr r off => match getR R r with
        | .cells ty old => match putF old off cs with
          | some new => .leaf (.top, [(r, .cells ty new)])
          | none => .fail
        | _ => .fail
      | .eptr r sz i off => match getR R r with
        | .vec t' xs => if sz = c.L.sz t' ∧ c.flat t' = true then
            match putF (c.L.enc t' (xs.getD i (c.L.dflt t'))) off cs with
            | some new => match c.L.dec t' new with
              | some y => .need (i < xs.length) (.leaf (.top, [(r, .vec t' (xs.set i y))]))
              | none => .fail
            | none => .fail
          else .fail
        | _ => .fail
      | _ => .fail
    else .fail
  | _, _ => .fail

def aBox (base : Nat) (t : TypeId) (x : AVal El) : Tree (Eff El) :=
  match cellsOf x with
  | some cs => .leaf (.ptr base 0, [(base, .cells t cs)])
  | none => .fail

/-- A constant's cell. -/
def absC : Value → Option (AVal El)
  | .bool b => some (.bool b)
  | .int k n => some (.int k n)
  | .string s => some (.str s)
  | .pointer none => some .nilp
  | .nilFunc => some .nilf
  | .map none => some .nilm
  | .slice none 0 0 => some .nils
  | _ => none
def absL : List Value → Option (List (AVal El))
  | [] => some []
  | v :: vs => match absC v, absL vs with
    | some a, some as => some (a :: as)
    | _, _ => none
def absV : Value → AVal El
  | .agg cs => match absL cs.toList with
    | some l => .agg l
    | none => .top
  | v => match absC v with
    | some a => a
    | none => .top

def aAlloc (base : Nat) (t : TypeId) : Tree (Eff El) :=
  match (c.P.info? t).bind (·.zero) with
  | some z => aBox base t (absV z)
  | none => .fail
end defs

section proofs
variable {I : Nat → Prop} {E : Env} {R : List (Res El)} {w : World} {c : Cx El} {L : Lay El}

theorem Rep.cells_of {a : AVal El} {v : Value} {cs : List (AVal El)} (h : Rep L I w E a v) (hc : cellsOf a = some cs) :
    ∃ vs, v.cells = vs.toArray ∧ Reps L I w E cs vs ∧ ∀ u ∈ vs, u.oneCell' = true := by
  have one : ∀ {a : AVal El} {v : Value}, Rep L I w E a v → cellsOf a = some [a] → v.oneCell' = true → v.cells = #[v] →
      ∃ vs, v.cells = vs.toArray ∧ Reps L I w E [a] vs ∧ ∀ u ∈ vs, u.oneCell' = true := fun {a v} h _ h1 h2 =>
    ⟨[v], by rw [h2], Reps.cons h Reps.nil, fun u hu => by simp at hu; subst hu; exact h1⟩
  cases h with
  | top => simp [cellsOf] at hc
  | tup => simp [cellsOf] at hc
  | vec h h1 =>
    simp only [cellsOf, Option.some.injEq] at hc; subst hc
    refine one (.vec h h1) rfl h1 ?_
    revert h1
    rename_i e
    cases e.raw <;> intro h1 <;> first | rfl | (simp [Value.oneCell'] at h1)
  | agg hl h h1 =>
    simp only [cellsOf, Option.some.injEq] at hc; subst hc
    exact ⟨_, rfl, ⟨hl, h⟩, h1⟩
  | bool => simp only [cellsOf, Option.some.injEq] at hc; subst hc; exact one .bool rfl rfl rfl
  | int => simp only [cellsOf, Option.some.injEq] at hc; subst hc; exact one .int rfl rfl rfl
  | str => simp only [cellsOf, Option.some.injEq] at hc; subst hc; exact one .str rfl rfl rfl
  | nilp => simp only [cellsOf, Option.some.injEq] at hc; subst hc; exact one .nilp rfl rfl rfl
  | nilf => simp only [cellsOf, Option.some.injEq] at hc; subst hc; exact one .nilf rfl rfl rfl
  | nilm => simp only [cellsOf, Option.some.injEq] at hc; subst hc; exact one .nilm rfl rfl rfl
  | nils => simp only [cellsOf, Option.some.injEq] at hc; subst hc; exact one .nils rfl rfl rfl
  | anyb => simp only [cellsOf, Option.some.injEq] at hc; subst hc; exact one .anyb rfl rfl rfl
  | ptr h => simp only [cellsOf, Option.some.injEq] at hc; subst hc; exact one (.ptr h) rfl rfl rfl
  | eptr h => simp only [cellsOf, Option.some.injEq] at hc; subst hc; exact one (.eptr h) rfl rfl rfl
  | lptr h1 h2 h3 h4 h5 h6 => simp only [cellsOf, Option.some.injEq] at hc; subst hc; exact one (.lptr h1 h2 h3 h4 h5 h6) rfl rfl rfl
  | cs h => simp only [cellsOf, Option.some.injEq] at hc; subst hc; exact one (.cs h) rfl rfl rfl
  | fn hl h => simp only [cellsOf, Option.some.injEq] at hc; subst hc; exact one (.fn hl h) rfl rfl rfl
  | listNil => simp only [cellsOf, Option.some.injEq] at hc; subst hc; exact one .listNil rfl rfl rfl
  | list h1 h2 h3 h4 h5 h6 h7 => simp only [cellsOf, Option.some.injEq] at hc; subst hc; exact one (.list h1 h2 h3 h4 h5 h6 h7) rfl rfl rfl
  | mapr h => simp only [cellsOf, Option.some.injEq] at hc; subst hc; exact one (.mapr h) rfl rfl rfl

theorem absC_ok {v : Value} {a : AVal El} (h : absC v = some a) : Rep L I w E a v ∧ v.oneCell' = true := by
  unfold absC at h
  split at h <;> first | (cases h; done) | (simp only [Option.some.injEq] at h; subst h; first | exact ⟨.bool, rfl⟩ | exact ⟨.int, rfl⟩ | exact ⟨.str, rfl⟩ | exact ⟨.nilp, rfl⟩ | exact ⟨.nilf, rfl⟩ | exact ⟨.nilm, rfl⟩ | exact ⟨.nils, rfl⟩)

theorem absL_ok {vs : List Value} {as : List (AVal El)} (h : absL vs = some as) : Reps L I w E as vs ∧ ∀ v ∈ vs, v.oneCell' = true := by
  induction vs generalizing as with
  | nil => simp [absL] at h; subst h; exact ⟨Reps.nil, by simp⟩
  | cons v vs ih =>
    simp only [absL] at h
    split at h
    · rename_i a as' h1 h2
      simp only [Option.some.injEq] at h; subst h
      obtain ⟨g1, g2⟩ := absC_ok (L := L) (I := I) (w := w) (E := E) h1
      obtain ⟨g3, g4⟩ := ih h2
      exact ⟨Reps.cons g1 g3, fun u hu => by
        rcases List.mem_cons.1 hu with rfl | hu
        · exact g2
        · exact g4 u hu⟩
    · cases h

theorem absV_ok (v : Value) : Rep L I w E (absV v : AVal El) v := by
  unfold absV
  split
  · rename_i cs
    split
    · rename_i l hl
      obtain ⟨g1, g2⟩ := absL_ok (L := L) (I := I) (w := w) (E := E) hl
      have := g1.agg g2
      simpa using this
    · exact .top
  · split
    · rename_i a ha
      exact (absC_ok ha).1
    · exact .top

theorem aBox_ok (h : HR c.L I w E R) {base : Nat} {t : TypeId} {x : AVal El} {v : Value} (hb : E base = none) (hr : Rep c.L I w E x v) {y : Eff El} (ho : (aBox base t x).Out y) :
    ∃ u w' I' E', (Instr.box t v).run c.P w = .ok u w' ∧ Post c.L I E R w base y.2 y.1 u w' I' E' := by
  unfold aBox at ho
  split at ho
  · rename_i cs hc
    simp only [Tree.Out] at ho; subst ho
    obtain ⟨vs, g1, g2, g3⟩ := hr.cells_of hc
    refine ⟨_, _, _, _, ?_, h.addCells hb t g2 g3⟩
    simp [Instr.box, newVar, newRow, g1]
  · exact ho.elim

theorem aAlloc_ok (h : HR c.L I w E R) {base : Nat} {t : TypeId} (hb : E base = none) {y : Eff El} (ho : (aAlloc c base t).Out y) :
    ∃ u w' I' E', (Instr.alloc t true (.tuple #[])).run c.P w = .ok u w' ∧ Post c.L I E R w base y.2 y.1 u w' I' E' := by
  unfold aAlloc at ho
  split at ho
  · rename_i z hz
    obtain ⟨u, w', I', E', h1, h2⟩ := aBox_ok h hb (absV_ok z) ho
    refine ⟨u, w', I', E', ?_, h2⟩
    have hz' : (zeroValue t).run c.P w = .ok z w := by
      cases hi : c.P.info? t with
      | none => simp [hi] at hz
      | some i => simp [hi] at hz; simp [zeroValue, typeInfo, hi, hz]
    simp only [Instr.alloc, Sem.run_bind, hz', Result.andThen_ok]
    simpa [Instr.box] using h1
  · exact ho.elim

theorem splice_reps {cs ds : List (AVal El)} {vs us : List Value} (h : Reps L I w E cs vs) (h' : Reps L I w E ds us) (n : Nat) :
    Reps L I w E (cs.take n ++ ds ++ cs.drop (n + ds.length)) (vs.take n ++ us ++ vs.drop (n + us.length)) := by
  rw [← h'.len]
  exact ((h.take n).append h').append (h.drop _)

theorem one_splice {vs us : List Value} (h : ∀ v ∈ vs, v.oneCell' = true) (h' : ∀ v ∈ us, v.oneCell' = true) (n m : Nat) : ∀ v ∈ vs.take n ++ us ++ vs.drop m, v.oneCell' = true := by
  intro v hv
  rcases List.mem_append.1 hv with hv | hv
  · rcases List.mem_append.1 hv with hv | hv
    · exact h v (List.mem_of_mem_take hv)
    · exact h' v hv
  · exact h v (List.mem_of_mem_drop hv)

theorem splice_get {α : Type} (l m : List α) (n : Nat) (h : n + m.length ≤ l.length) (k : Nat) :
    (l.take n ++ m ++ l.drop (n + m.length))[k]? = if n ≤ k ∧ k < n + m.length then m[k - n]? else l[k]? := by
  have hl : (l.take n).length = n := by simp; omega
  by_cases h1 : k < n
  · rw [List.append_assoc, List.getElem?_append_left (by omega), if_neg (by omega), List.getElem?_take, if_pos h1]
  · by_cases h2 : k < n + m.length
    · rw [List.append_assoc, List.getElem?_append_right (by omega), List.getElem?_append_left (by omega), if_pos (by omega), hl]
    · rw [List.getElem?_append_right (by simp; omega), if_neg (by omega), List.getElem?_drop]
      congr 1
      simp; omega

theorem aStore_ok (h : HR c.L I w E R) {base : Nat} {t : TypeId} {a x : AVal El} {va vx : Value} (ha : Rep c.L I w E a va) (hx : Rep c.L I w E x vx) {y : Eff El}
    (ho : (aStore c R t a x).Out y) : ∃ w' I' E', (Instr.storeAt t va vx).run c.P w = .ok () w' ∧ Post c.L I E R w base y.2 y.1 undef w' I' E' := by
  unfold aStore at ho
  split at ho
  · rename_i cs n hcs hn
    split at ho
    · rename_i hlen
      obtain ⟨us, g1, g2, g3⟩ := hx.cells_of hcs
      have hul : us.length = n := by rw [← g2.len]; exact hlen
      have hst : ∀ (b o : Nat) (cur : Array Value) (ty : TypeId), w.heap[b]? = some (.cells cur ty (0, 0)) → o + us.length ≤ cur.size → va = .pointer (some ⟨b, o, none⟩) →
          (Instr.storeAt t va vx).run c.P w = .ok () (w.setRow b (cur.toList.take o ++ us ++ cur.toList.drop (o + us.length)).toArray) := by
        intro b o cur ty hb hle hva
        have hr := run_storeCells_at c.P b o ty us 0 cur w hb (by simpa using hle) g3
        simp only [Nat.add_zero] at hr
        subst hva
        have hsz : vx.cells.size = n := by rw [g1]; simpa using hul
        have hsz' : us.length = n := hul
        simp only [Instr.storeAt, Instr.sureAddr, storeVar, Sem.run_bind, Sem.run_pure, Result.andThen_ok, info_size hn, hsz, ne_eq, not_true_eq_false, if_false]
        rw [g1]
        simpa using hr
      cases ha <;> simp only at ho <;> try exact ho.elim
      case ptr r off b v he =>
        split at ho
        · rename_i ty old hg
          split at ho
          · rename_i new hput
            simp only [Tree.Out] at ho; subst ho
            obtain ⟨rfl, hle⟩ := putF_some hput
            obtain ⟨e, h1, h2⟩ := h.res r (by rw [hg]; simp)
            rw [he] at h1; cases h1
            rw [hg] at h2
            obtain ⟨b', vs, k1, k2, k3, k4⟩ := h2
            cases k1
            have hsize : off + us.length ≤ vs.toArray.size := by rw [← g2.len]; have := k3.len; simp; omega
            have hrun := hst b off vs.toArray ty k2 hsize rfl
            have hnew := splice_reps k3 g2 off
            have hkeep : ∀ k, k ≠ b → (w.setRow b (vs.toArray.toList.take off ++ us ++ vs.toArray.toList.drop (off + us.length)).toArray).heap[k]? = w.heap[k]? := fun k hk => setRow_other w b k _ hk
            have hIw : ∀ k, I k → (w.setRow b (vs.toArray.toList.take off ++ us ++ vs.toArray.toList.drop (off + us.length)).toArray).heap[k]? = w.heap[k]? :=
              fun k hk => hkeep k (fun e => h.notI b ⟨r, _, by rw [hg]; simp, he, rfl⟩ (e ▸ hk))
            obtain ⟨m1, m2⟩ := h.write (r := r) (by rw [hg]; simp) he rfl (.cells ty (old.take off ++ cs ++ old.drop (off + cs.length))) (by simp)
              (w' := w.setRow b (vs.toArray.toList.take off ++ us ++ vs.toArray.toList.drop (off + us.length)).toArray) rfl rfl rfl (setRow_size _ _ _) hkeep
              ⟨b, vs.take off ++ us ++ vs.drop (off + us.length), rfl, by simpa using setRow_heap w b _ (vs.take off ++ us ++ vs.drop (off + us.length)).toArray ty (0, 0) k2, hnew.mono (fun _ h => h) hIw (Env.le_refl _), one_splice k4 g3 _ _⟩
            exact ⟨_, I, E, hrun, ⟨m2, m1, .top, fun _ _ => rfl⟩⟩
          · exact ho.elim
        · exact ho.elim
      case eptr r sz i off b v he =>
        split at ho
        · rename_i t' xs hg
          split at ho
          · rename_i hsz
            obtain ⟨hsz, hflat⟩ := hsz
            split at ho
            · rename_i new hput
              split at ho
              · rename_i y' hdec
                simp only [Tree.Out] at ho
                obtain ⟨hi, ho⟩ := ho; subst ho
                subst hsz
                obtain ⟨rfl, hle⟩ := putF_some hput
                rw [c.L.enc_len] at hle
                obtain ⟨e, h1, h2⟩ := h.res r (by rw [hg]; simp)
                rw [he] at h1; cases h1
                rw [hg] at h2
                rcases h2 with ⟨k0, _⟩ | ⟨b', cap, cells, vals, k0, k1, k2, k3, k4, k5, k6⟩
                · cases k0
                · cases k0
                  have hmul : (i + 1) * c.L.sz t' ≤ cap * c.L.sz t' := Nat.mul_le_mul_right _ (by omega)
                  rw [Nat.succ_mul] at hmul
                  have hsize : (i * c.L.sz t' + off) + us.length ≤ cells.size := by rw [← g2.len, k4]; omega
                  have hrun := hst b (i * c.L.sz t' + off) cells t' k3 hsize rfl
                  have hdec' := c.L.dec_enc _ _ _ hdec
                  -- the new cells
                  have hx0 : xs[i]? = some xs[i] := List.getElem?_eq_getElem hi
                  have hgD : xs.getD i (c.L.dflt t') = xs[i] := by simp [List.getD, hx0]
                  have hnew : HRes c.L I (w.setRow b (cells.toList.take (i * c.L.sz t' + off) ++ us ++ cells.toList.drop (i * c.L.sz t' + off + us.length)).toArray) E ⟨some b, v⟩ (.vec t' (xs.set i y')) := by
                    refine .inr ⟨b, cap, _, fun i' j' => if i' = i ∧ off ≤ j' ∧ j' < off + us.length then us.getD (j' - off) undef else vals i' j', rfl, by simpa using k1, by simpa using k2,
                      setRow_heap w b _ _ t' (0, 0) k3, by
                        have := hsize
                        simp only [List.size_toArray, List.length_append, List.length_take, List.length_drop, Array.length_toList]
                        omega, ?_, ?_⟩
                    · intro i' j' hi' hj'
                      dsimp only
                      simp only [List.length_set] at hi'
                      have hv := k5 i' j' hi' hj'
                      have hspl := splice_get cells.toList us (i * c.L.sz t' + off) (by simpa using hsize) (i' * c.L.sz t' + j')
                      have hiff : (i * c.L.sz t' + off ≤ i' * c.L.sz t' + j' ∧ i' * c.L.sz t' + j' < i * c.L.sz t' + off + us.length) ↔ (i' = i ∧ off ≤ j' ∧ j' < off + us.length) := by
                        have hul' : off + us.length ≤ c.L.sz t' := by rw [← g2.len]; exact hle
                        constructor
                        · rintro ⟨p1, p2⟩
                          have hii : i' = i := by
                            rcases Nat.lt_trichotomy i' i with hlt | heq | hgt
                            · have : (i' + 1) * c.L.sz t' ≤ i * c.L.sz t' := Nat.mul_le_mul_right _ hlt
                              rw [Nat.succ_mul] at this; omega
                            · exact heq
                            · have : (i + 1) * c.L.sz t' ≤ i' * c.L.sz t' := Nat.mul_le_mul_right _ hgt
                              rw [Nat.succ_mul] at this; omega
                          subst hii
                          exact ⟨rfl, by omega, by omega⟩
                        · rintro ⟨rfl, p1, p2⟩
                          omega
                      rw [List.getElem?_toArray, hspl]
                      by_cases hc' : i' = i ∧ off ≤ j' ∧ j' < off + us.length
                      · rw [if_pos (hiff.2 hc'), if_pos hc']
                        obtain ⟨rfl, p1, p2⟩ := hc'
                        have hk : i' * c.L.sz t' + j' - (i' * c.L.sz t' + off) = j' - off := by omega
                        have hlt : j' - off < us.length := by omega
                        rw [hk, List.getD_eq_getElem?_getD, List.getElem?_eq_getElem hlt]
                        exact ⟨rfl, g3 _ (List.getElem_mem hlt)⟩
                      · rw [if_neg (fun h => hc' (hiff.1 h)), if_neg hc']
                        simpa using hv
                    · intro i' x' hx' j' c' hc'
                      dsimp only
                      by_cases hii : i' = i
                      · subst hii
                        rw [List.getElem?_set_self hi] at hx'
                        cases hx'
                        rw [hdec', hgD] at hc'
                        have hl2 : (c.L.enc t' xs[i']).length = c.L.sz t' := c.L.enc_len _ _
                        rw [splice_get _ _ _ (by rw [hl2]; exact hle)] at hc'
                        by_cases hc2 : off ≤ j' ∧ j' < off + cs.length
                        · rw [if_pos hc2] at hc'
                          have hlt : j' - off < us.length := by rw [← g2.len]; omega
                          rw [if_pos ⟨rfl, hc2.1, by rw [← g2.len]; exact hc2.2⟩, List.getD_eq_getElem?_getD, List.getElem?_eq_getElem hlt]
                          have hrep := g2.at_ (j' - off) c' _ hc' (List.getElem?_eq_getElem hlt)
                          have hfl := c.flat_ok _ hflat y'
                          rw [hdec', hgD] at hfl
                          exact hrep.flat (flatL_at hfl (i := j') (by rw [splice_get _ _ _ (by rw [hl2]; exact hle), if_pos hc2]; exact hc'))
                        · rw [if_neg hc2] at hc'
                          rw [if_neg (fun hh => hc2 ⟨hh.2.1, by rw [g2.len]; exact hh.2.2⟩)]
                          exact (k6 i' _ hx0 j' c' hc').mono (fun _ h => h) (fun _ h => h.elim) (Env.le_refl _)
                      · rw [List.getElem?_set_ne (Ne.symm hii)] at hx'
                        rw [if_neg (fun hh => hii hh.1)]
                        exact (k6 i' x' hx' j' c' hc').mono (fun _ h => h) (fun _ h => h.elim) (Env.le_refl _)
                  obtain ⟨m1, m2⟩ := h.write (r := r) (by rw [hg]; simp) he rfl (.vec t' (xs.set i y')) (by simp)
                    (w' := w.setRow b (cells.toList.take (i * c.L.sz t' + off) ++ us ++ cells.toList.drop (i * c.L.sz t' + off + us.length)).toArray) rfl rfl rfl (setRow_size _ _ _) (fun k hk => setRow_other w b k _ hk) hnew
                  exact ⟨_, I, E, hrun, ⟨m2, m1, .top, fun _ _ => rfl⟩⟩
              · exact ho.elim
            · exact ho.elim
          · exact ho.elim
        · exact ho.elim
    · exact ho.elim
  · exact ho.elim
end proofs
end Go.Ax
