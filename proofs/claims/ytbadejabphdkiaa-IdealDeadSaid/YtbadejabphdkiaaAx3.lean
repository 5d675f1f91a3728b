/- A verified symbolic executor, part 3: what each operation that calls no Go function does to abstract values and resources, and that the model does just that. Over any program; the facts on its types are given with it. -/
import Derived.Test.YtbadejabphdkiaaAx2
set_option linter.unusedVariables false
set_option linter.unusedSimpArgs false
namespace Go.Ax
variable {El : TypeId → Type}

/-- Cells that are numbers or truth values, compared one by one. -/
def eqVals : List Value → List Value → Option Bool
  | [], [] => some true
  | .int k x :: as, .int k' y :: bs => if k = k' then (eqVals as bs).map fun r => (x == y) && r else none
  | .bool x :: as, .bool y :: bs => (eqVals as bs).map fun r => (x == y) && r
  | _, _ => none

/-- Which cells are numbers ('true') and which are truth values. -/
def shpV : List Value → List Bool → Bool
  | [], [] => true
  | .int _ _ :: as, true :: s => shpV as s
  | .bool _ :: as, false :: s => shpV as s
  | _, _ => false

/-- A value that stands for the same in every world. -/
def flatA : AVal El → Bool
  | .bool _ | .int _ _ | .str _ | .nilp | .nilf | .nilm | .nils | .anyb => true
  | _ => false
def flatL : List (AVal El) → Bool
  | [] => true
  | a :: l => flatA a && flatL l
theorem flatL_at {l : List (AVal El)} (h : flatL l = true) {i : Nat} {a : AVal El} (ha : l[i]? = some a) : flatA a = true := by
  induction l generalizing i with
  | nil => simp at ha
  | cons b l ih =>
    simp only [flatL, Bool.and_eq_true] at h
    cases i with
    | zero => simp at ha; subst ha; exact h.1
    | succ i => simp at ha; exact ih h.2 ha
theorem Rep.flat {L : Lay El} {I I' : Nat → Prop} {w w' : World} {E E' : Env} {a : AVal El} {v : Value} (h : Rep L I w E a v) (hf : flatA a = true) : Rep L I' w' E' a v := by
  cases h <;> first | (simp [flatA] at hf; done) | exact .bool | exact .int | exact .str | exact .nilp | exact .nilf | exact .nilm | exact .nils | exact .anyb

/-- The program, the layout of the elements of its slices, and the facts on its types. -/
structure Cx (El : TypeId → Type) where
  P : Program
  L : Lay El
  known : TypeId → Bool
  known_ok : ∀ t, known t = true → (P.info? t).map (·.size) = some (L.sz t) ∧ 0 < L.sz t
  zero_ok : ∀ t, known t = true → ∃ z, (P.info? t).bind (·.zero) = some z ∧ z.cells.size = L.sz t ∧ ∀ i : Nat, i < L.sz t → ∃ v, z.cells[i]? = some v ∧ v.oneCell' = true ∧
    ∀ (I : Nat → Prop) (w : World) (c : AVal El), (L.enc t (L.dflt t))[i]? = some c → Rep L I w noE c v
  flat : TypeId → Bool
  flat_ok : ∀ t, flat t = true → ∀ x, flatL (L.enc t x) = true
  eqT : TypeId → Option (List Bool)
  eq_ok : ∀ t s, eqT t = some s → ∀ (xs ys : List Value) (r : Bool), eqVals xs ys = some r → shpV xs s = true → ∀ (w : World) (x y : Operand),
    (eqGuard .eql t x y (.agg xs.toArray) (.agg ys.toArray)).run P w = .ok () w ∧ (eqGuard .neq t x y (.agg xs.toArray) (.agg ys.toArray)).run P w = .ok () w ∧
    (binOp .eql t (.agg xs.toArray) (.agg ys.toArray)).run P w = .ok (.bool r) w ∧ (binOp .neq t (.agg xs.toArray) (.agg ys.toArray)).run P w = .ok (.bool !r) w
  mixed : P.follows .mixedOrders = true
  /-- Whether a remainder by three is looked at, case by case. -/
  split3 : Bool := false
  /-- Structs of plain numbers that are keys of maps. -/
  keyT : TypeId → Bool := fun _ => false
  key_ok : ∀ t, keyT t = true → (match P.underlying t with | some (.array _ _) | some (.struct _) => true | _ => false) = true ∧ ∀ s, eqT t = some s → ∀ xs : List Value, shpV xs s = true → ∀ (em : Bool) (w : World), (Instr.checkKey em 10000 t (.agg xs.toArray)).run P w = .ok () w := by intro t h; cases h

def cellsOf : AVal El → Option (List (AVal El))
  | .agg cs => some cs
  | .top => none
  | .tup _ => none
  | a => some [a]

def takeF : Nat → List (AVal El) → Option (List (AVal El))
  | 0, _ => some []
  | n + 1, a :: l => (takeF n l).map (a :: ·)
  | _ + 1, [] => none
def dropF : Nat → List (AVal El) → List (AVal El)
  | 0, l => l
  | n + 1, _ :: l => dropF n l
  | _ + 1, [] => []
theorem dropF_eq (n : Nat) (l : List (AVal El)) : dropF n l = l.drop n := by
  induction n generalizing l with
  | zero => rfl
  | succ n ih => cases l <;> simp [dropF, ih]
theorem takeF_some {n : Nat} {l r : List (AVal El)} (h : takeF n l = some r) : r = l.take n ∧ n ≤ l.length := by
  induction n generalizing l r with
  | zero => simp [takeF] at h; subst h; simp
  | succ n ih =>
    cases l with
    | nil => simp [takeF] at h
    | cons a l =>
      simp only [takeF, Option.map_eq_some_iff] at h
      obtain ⟨r', h1, rfl⟩ := h
      obtain ⟨rfl, h2⟩ := ih h1
      simp; omega

/-- 'l' with 'cs' written over it from place 'n' on. -/
def putF : List (AVal El) → Nat → List (AVal El) → Option (List (AVal El))
  | l, 0, [] => some l
  | _ :: l, 0, c :: cs => (putF l 0 cs).map (c :: ·)
  | [], 0, _ :: _ => none
  | a :: l, n + 1, cs => (putF l n cs).map (a :: ·)
  | [], _ + 1, _ => none
theorem putF_some {l r : List (AVal El)} {n : Nat} {cs : List (AVal El)} (h : putF l n cs = some r) : r = l.take n ++ cs ++ l.drop (n + cs.length) ∧ n + cs.length ≤ l.length := by
  induction l generalizing n cs r with
  | nil =>
    cases n with
    | zero => cases cs with
      | nil => simp [putF] at h; subst h; simp
      | cons c cs => simp [putF] at h
    | succ n => simp [putF] at h
  | cons a l ih =>
    cases n with
    | zero => cases cs with
      | nil => simp [putF] at h; subst h; simp
      | cons c cs =>
        simp only [putF, Option.map_eq_some_iff] at h
        obtain ⟨r', h1, rfl⟩ := h
        obtain ⟨e, hl⟩ := ih h1
        subst e
        simp at hl ⊢; omega
    | succ n =>
      simp only [putF, Option.map_eq_some_iff] at h
      obtain ⟨r', h1, rfl⟩ := h
      obtain ⟨e, hl⟩ := ih h1
      subst e
      refine ⟨?_, by simp; omega⟩
      rw [show n + 1 + cs.length = (n + cs.length) + 1 from by omega]
      simp

def isAggT (P : Program) (t : TypeId) : Option Bool :=
  match P.underlying t with
  | some (.struct _) | some (.array _ _) => some true
  | some _ => some false
  | none => none
theorem run_isAggT {P : Program} {t : TypeId} {b : Bool} (h : isAggT P t = some b) (w : World) : (isAgg t).run P w = .ok b w := by
  unfold isAggT at h
  cases hu : P.underlying t with
  | none => simp [hu] at h
  | some d => cases d <;> simp [hu] at h <;> subst h <;> simp [isAgg, run_underlying hu]

section ops
variable (c : Cx El) (R : List (Res El))

/-- The cells from an address on. -/
def cellsAt : AVal El → Tree (List (AVal El))
  | .ptr r off => match getR R r with
    | .cells _ cs => .leaf (dropF off cs)
    | _ => .fail
  | .lptr t xs _ i off => .leaf (dropF off (c.L.enc t (xs.getD i (c.L.dflt t))))
  | .eptr r sz i off => match getR R r with
    | .vec t xs => if sz = c.L.sz t then .need (i < xs.length) (.leaf (dropF off (c.L.enc t (xs.getD i (c.L.dflt t))))) else .fail
    | _ => .fail
  | _ => .fail

def aPart (t : TypeId) (cs : List (AVal El)) : Tree (AVal El) :=
  match isAggT c.P t, (c.P.info? t).map (·.size) with
  | some true, some n => match takeF n cs with
    | some l => .leaf (.agg l)
    | none => .fail
  | some false, some _ => match cs with
    | a :: _ => .leaf a
    | [] => .fail
  | _, _ => .fail

def aLoad (t : TypeId) (a : AVal El) : Tree (AVal El) := (cellsAt c R a).bind (aPart c t)
end ops

section rows
variable {L : Lay El} {I : Nat → Prop} {E : Env} {R : List (Res El)} {w : World} {c : Cx El}

/-- A run of cells in memory, from an address on. -/
structure RowAt (L : Lay El) (I : Nat → Prop) (w : World) (E : Env) (a : Addr) (cs : List (AVal El)) (vs : List Value) : Prop where
  reps : Reps L I w E cs vs
  one : ∀ v ∈ vs, v.oneCell' = true
  at_ : ∀ j v, vs[j]? = some v → w.cell? (a.add j) = some v

theorem cell_of {w : World} {b o : Nat} {cells : Array Value} {t : TypeId} {fz : Nat × Nat} (h : w.heap[b]? = some (.cells cells t fz)) : w.cell? ⟨b, o, none⟩ = cells[o]? := by
  simp [World.cell?, h]

theorem list_of_fun (vals : Nat → Value) (n : Nat) : ∃ vs : List Value, vs.length = n ∧ ∀ j, j < n → vs[j]? = some (vals j) :=
  ⟨(List.range n).map vals, by simp, fun j hj => by simp [hj]⟩

/-- The cells of one element. -/
theorem elem_row {t : TypeId} {xs : List (El t)} {i b o : Nat} {cells : Array Value} {ty : TypeId} {fz : Nat × Nat} {I' : Nat → Prop} (hi : i < xs.length) (hb : w.heap[b]? = some (.cells cells ty fz)) (vals : Nat → Nat → Value)
    (hcells : ∀ (i j : Nat), i < xs.length → j < L.sz t → cells[o + i * L.sz t + j]? = some (vals i j) ∧ (vals i j).oneCell' = true)
    (hrep : ∀ (i : Nat) (x : El t), xs[i]? = some x → ∀ (j : Nat) (c : AVal El), (L.enc t x)[j]? = some c → Rep L I' w noE c (vals i j)) (hI' : ∀ b, I' b → I b) :
    ∃ vs, RowAt L I w E ⟨b, o + i * L.sz t, none⟩ (L.enc t (xs.getD i (L.dflt t))) vs := by
  obtain ⟨vs, hl, hv⟩ := list_of_fun (vals i) (L.sz t)
  have hx : xs[i]? = some xs[i] := List.getElem?_eq_getElem hi
  have hg : xs.getD i (L.dflt t) = xs[i] := by simp [List.getD, hx]
  refine ⟨vs, ⟨by rw [L.enc_len, hl], fun j c v hc hv' => ?_⟩, fun v hv' => ?_, fun j v hv' => ?_⟩
  · have hj : j < L.sz t := by
      rcases Nat.lt_or_ge j vs.length with h | h
      · omega
      · rw [List.getElem?_eq_none h] at hv'; cases hv'
    rw [hv j hj] at hv'; cases hv'
    rw [hg] at hc
    exact (hrep i _ hx j c hc).mono hI' (fun _ _ => rfl) (fun _ _ h => by cases h)
  · obtain ⟨j, hj⟩ := List.mem_iff_getElem?.1 hv'
    have hj' : j < L.sz t := by
      rcases Nat.lt_or_ge j vs.length with h | h
      · omega
      · rw [List.getElem?_eq_none h] at hj; cases hj
    rw [hv j hj'] at hj; cases hj
    exact (hcells i j hi hj').2
  · have hj' : j < L.sz t := by
      rcases Nat.lt_or_ge j vs.length with h | h
      · omega
      · rw [List.getElem?_eq_none h] at hv'; cases hv'
    rw [hv j hj'] at hv'; cases hv'
    rw [Addr.add_lit, cell_of hb]
    exact (hcells i j hi hj').1

theorem RowAt.drop {a : Addr} {cs : List (AVal El)} {vs : List Value} (h : RowAt L I w E a cs vs) (n : Nat) (ha : a.spot = none) : RowAt L I w E (a.add n) (cs.drop n) (vs.drop n) := by
  refine ⟨h.reps.drop n, fun v hv => h.one v (List.mem_of_mem_drop hv), fun j v hv => ?_⟩
  have := h.at_ (n + j) v (by simpa using hv)
  obtain ⟨b, o, s⟩ := a
  simp at ha
  subst ha
  rw [Addr.add_lit, Addr.add_lit]
  rw [Addr.add_lit] at this
  rwa [Nat.add_assoc]

theorem cells_row {e : REnv} {t : TypeId} {cs : List (AVal El)} {r b : Nat} {v : Value} (h : HRes L I w E e (.cells t cs)) (he : e = ⟨some b, v⟩) :
    ∃ vs, RowAt L I w E ⟨b, 0, none⟩ cs vs ∧ w.heap[b]? = some (.cells vs.toArray t (0, 0)) := by
  obtain ⟨b', vs, h1, h2, h3, h4⟩ := h
  subst he
  cases h1
  exact ⟨vs, ⟨h3, h4, fun j v hv => by rw [Addr.add_lit, cell_of h2]; simpa using hv⟩, h2⟩

theorem cellsAt_ok (h : HR c.L I w E R) {a : AVal El} {v : Value} {cs : List (AVal El)} (hr : Rep c.L I w E a v) (ho : (cellsAt c R a).Out cs) :
    ∃ b o vs, v = .pointer (some ⟨b, o, none⟩) ∧ RowAt c.L I w E ⟨b, o, none⟩ cs vs := by
  cases hr <;> simp only [cellsAt, Tree.Out] at ho
  case ptr r off b v' he =>
    split at ho
    · rename_i t cs' hg
      simp only [Tree.Out] at ho; subst ho
      obtain ⟨e, h1, h2⟩ := h.res r (by rw [hg]; simp)
      rw [he] at h1; cases h1
      rw [hg] at h2
      obtain ⟨vs, g1, g2⟩ := cells_row (r := r) h2 rfl
      have g3 := g1.drop off rfl
      rw [Addr.add_lit, Nat.zero_add] at g3
      rw [dropF_eq]
      exact ⟨_, _, _, rfl, g3⟩
    · exact ho.elim
  case lptr t xs i off b o hi cells ty fz hI hb vals hc hrep =>
    subst ho
    obtain ⟨vs, g1⟩ := elem_row (E := E) hi hb vals hc hrep (fun _ h => h)
    have g3 := g1.drop off rfl
    rw [Addr.add_lit] at g3
    rw [dropF_eq]
    exact ⟨_, _, _, rfl, g3⟩
  case eptr r sz i off b v' he =>
    split at ho
    · rename_i t xs hg
      split at ho
      · rename_i hsz
        simp only [Tree.Out] at ho
        obtain ⟨hi, ho⟩ := ho
        subst ho
        obtain ⟨e, h1, h2⟩ := h.res r (by rw [hg]; simp)
        rw [he] at h1; cases h1
        rw [hg] at h2
        rcases h2 with ⟨h2, _⟩ | ⟨b', cap, cells, vals, h2, h3, h4, h5, h6, h7, h8⟩
        · cases h2
        · cases h2
          subst hsz
          obtain ⟨vs, g1⟩ := elem_row (I := I) (E := E) (o := 0) hi h5 vals (by simpa using h7) h8 (fun _ h => h.elim)
          have g3 := g1.drop off rfl
          rw [Addr.add_lit, Nat.zero_add] at g3
          rw [dropF_eq]
          exact ⟨_, _, _, rfl, g3⟩
      · exact ho.elim
    · exact ho.elim

theorem Reps.agg {cs : List (AVal El)} {vs : List Value} (h : Reps L I w E cs vs) (h1 : ∀ v ∈ vs, v.oneCell' = true) : Rep L I w E (.agg cs) (.agg vs.toArray) := .agg h.len h.at_ h1

theorem info_size {P : Program} {t : TypeId} {n : Nat} (h : (P.info? t).map (·.size) = some n) (w : World) : (sizeOf t).run P w = .ok n w := by
  cases hi : P.info? t with
  | none => simp [hi] at h
  | some i => simp [hi] at h; simp [sizeOf, typeInfo, hi, h]

theorem aLoad_ok (h : HR c.L I w E R) {t : TypeId} {a x : AVal El} {v : Value} (hr : Rep c.L I w E a v) (ho : (aLoad c R t a).Out x) :
    ∃ u, (Instr.loadAt t v).run c.P w = .ok u w ∧ Rep c.L I w E x u := by
  unfold aLoad at ho
  rw [Tree.out_bind] at ho
  obtain ⟨cs, h1, h2⟩ := ho
  obtain ⟨b, o, vs, rfl, row⟩ := cellsAt_ok h hr h1
  unfold aPart at h2
  split at h2
  · rename_i n hagg hn
    split at h2
    · rename_i l hl
      simp only [Tree.Out] at h2; subst h2
      obtain ⟨rfl, hle⟩ := takeF_some hl
      have hlen : n = (vs.take n).length := by have := row.reps.len; simp; omega
      have hcells : (loadCells ⟨b, o, none⟩ n).run c.P w = .ok (vs.take n).toArray w := by
        have := run_loadCells_list (P := c.P) w ⟨b, o, none⟩ (vs.take n) (fun j u hu => row.at_ j u (by
          rw [List.getElem?_take] at hu
          split at hu
          · exact hu
          · cases hu))
        rwa [← hlen] at this
      refine ⟨.agg (vs.take n).toArray, ?_, (row.reps.take n).agg (fun v hv => row.one v (List.mem_of_mem_take hv))⟩
      simp [Instr.loadAt, Instr.sureAddr, loadVar, run_isAggT hagg, info_size hn, hcells]
    · exact h2.elim
  · rename_i n hagg hn
    split at h2
    · rename_i a' rest
      simp only [Tree.Out] at h2; subst h2
      obtain ⟨u, us, rfl, g1, g2⟩ := row.reps.inv_cons
      have := row.at_ 0 u rfl
      rw [Addr.add_lit, Nat.add_zero] at this
      refine ⟨u, ?_, g1⟩
      simp [Instr.loadAt, Instr.sureAddr, loadVar, run_isAggT hagg, this]
    · exact h2.elim
  · exact h2.elim
end rows
end Go.Ax
