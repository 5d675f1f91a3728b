/- A verified symbolic executor, part 6: composite values, slices that are cut, made, appended to, and measured. Over any program; the facts on its types are given with it. -/
import Derived.Test.YtbadejabphdkiaaAx5
set_option linter.unusedVariables false
set_option linter.unusedSimpArgs false
namespace Go.Ax
variable {El : TypeId → Type}

section defs
variable (c : Cx El) (R : List (Res El))

/-- Parts written over cells. -/
def aFill (place : Nat → Option (Nat × Nat)) (cs : List (AVal El)) : List (Nat × AVal El) → Option (List (AVal El))
  | [] => some cs
  | (i, v) :: rest => match place i, cellsOf v with
    | some (off, size), some ds => if ds.length = size then match putF cs off ds with
        | some cs' => aFill place cs' rest
        | none => none
      else none
    | _, _ => none

def placesOf : List Field → Option (List (Nat × Nat))
  | [] => some []
  | f :: fs => match (c.P.info? f.type).map (·.size), placesOf fs with
    | some n, some l => some ((f.offset, n) :: l)
    | _, _ => none

def aBuild (t : TypeId) (parts : List (Nat × AVal El)) : Tree (AVal El) :=
  match (c.P.info? t).bind (·.zero), c.P.underlying t with
  | some z, some (.struct fs) => match absL z.cells.toList, placesOf c fs.toList with
    | some cs, some pl => match aFill (pl[·]?) cs parts with
      | some r => .leaf (.agg r)
      | none => .fail
    | _, _ => .fail
  | some z, some (.array _ e) => match absL z.cells.toList, (c.P.info? e).map (·.size) with
    | some cs, some s => match aFill (fun i => some (i * s, s)) cs parts with
      | some r => .leaf (.agg r)
      | none => .fail
    | _, _ => .fail
  | _, _ => .fail

/-- Cells, element by element. -/
def decAll (L : Lay El) (t : TypeId) : Nat → List (AVal El) → Option (List (El t))
  | 0, [] => some []
  | 0, _ :: _ => none
  | n + 1, cs => match takeF (L.sz t) cs with
    | some l => match L.dec t l, decAll L t n (dropF (L.sz t) cs) with
      | some x, some xs => some (x :: xs)
      | _, _ => none
    | none => none

def topsF : Nat → List (AVal El)
  | 0 => []
  | n + 1 => .top :: topsF n

def aBuildSlice (base : Nat) (t : TypeId) (len : Nat) (parts : List (Nat × AVal El)) : Tree (Eff El) :=
  match c.P.underlying t with
  | some (.slice e) => if c.known e = true ∧ c.flat e = true ∧ len * c.L.sz e ≤ 16777216 then
      match aFill (fun i => some (i * c.L.sz e, c.L.sz e)) (topsF (len * c.L.sz e)) parts with
      | some cs => match decAll c.L e len cs with
        | some xs => .leaf (.vec base, [(base, .vec e xs)])
        | none => .fail
      | none => .fail
    else .fail
  | _ => .fail

/-- A slice value as a list that never changes; a slice of the run's own is given up for good. -/
def asList (x : AVal El) : Option ((t : TypeId) × List (El t) × List (Nat × Res El)) :=
  match x with
  | .list t xs => some ⟨t, xs, []⟩
  | .vec r => match getR R r with
    | .vec t xs => some ⟨t, xs, [(r, .dead)]⟩
    | _ => none
  | _ => none

def bndO : Option (AVal El) → Option (Option Int)
  | none => some none
  | some (.int _ n) => some (some n)
  | some _ => none

def aSlice (t : TypeId) (x : AVal El) (lo hi mx : Option (AVal El)) : Tree (Eff El) :=
  match c.P.underlying t with
  | some (.slice e) => match asList R x with
    | some ⟨t', xs, upd⟩ => if t' = e ∧ c.known e = true then
        match bndO lo, bndO hi, bndO mx with
        | some none, some none, some none => .leaf (.list t' xs, upd)
        | some (some l), some none, some none => .need (0 ≤ l ∧ l ≤ xs.length) (.leaf (.list t' (xs.drop l.toNat), upd))
        | some none, some (some h), some none => .need (0 ≤ h ∧ h ≤ xs.length) (.leaf (.list t' (xs.take h.toNat), upd))
        | some (some l), some (some h), some none => .need (0 ≤ l ∧ l ≤ h ∧ h ≤ xs.length) (.leaf (.list t' ((xs.take h.toNat).drop l.toNat), upd))
        | some none, some (some h), some (some m) => .need (0 ≤ h ∧ h ≤ m ∧ m ≤ xs.length) (.leaf (.list t' (xs.take h.toNat), upd))
        | some (some l), some (some h), some (some m) => .need (0 ≤ l ∧ l ≤ h ∧ h ≤ m ∧ m ≤ xs.length) (.leaf (.list t' ((xs.take h.toNat).drop l.toNat), upd))
        | _, _, _ => .fail
      else .fail
    | none => .fail
  | some (.array n e) => match x, lo, hi, mx with
    | .ptr r off, none, none, none => if (c.P.info? e).isSome = true then .leaf (.cs r off n, []) else .fail
    | _, _, _, _ => .fail
  | _ => .fail

def aLen (t : TypeId) (x : AVal El) : Tree (AVal El) :=
  match c.P.underlying t with
  | some (.array n _) => .leaf (.int .i64 n)
  | some (.slice _) => match x with
    | .list _ xs => .leaf (.int .i64 xs.length)
    | .nils => .leaf (.int .i64 0)
    | .cs _ _ n => .leaf (.int .i64 n)
    | .vec r => match getR R r with
      | .vec _ xs => .leaf (.int .i64 xs.length)
      | _ => .fail
    | _ => .fail
  | _ => .fail

def aMake (base : Nat) (t : TypeId) (l k : AVal El) : Tree (Eff El) :=
  match l, k, c.P.underlying t with
  | .int _ n, .int _ m, some (.slice e) => match c.P.info? e with
    | some i => if c.known e = true ∧ c.flat e = true then
        .need (0 ≤ n ∧ n = m ∧ (i.bytes : Int) * n ≤ 140737488355328 ∧ n ≤ 140737488355328) (.leaf (.vec base, [(base, .vec e (List.replicate n.toNat (c.L.dflt e)))]))
      else .fail
    | none => .fail
  | _, _, _ => .fail

/-- The source of an append, read only. -/
def srcOf (x : AVal El) : Option ((t : TypeId) × List (El t)) :=
  match x with
  | .list t xs => some ⟨t, xs⟩
  | .vec r => match getR R r with
    | .vec t xs => some ⟨t, xs⟩
    | _ => none
  | _ => none

def aAppend (base : Nat) (sT xT : TypeId) (s x : AVal El) : Tree (Eff El) :=
  match s, c.P.underlying sT, c.P.underlying xT with
  | .vec r, some (.slice e), some (.slice _) => match getR R r, c.P.info? e with
    | .vec t xs, some i => if t = e ∧ c.known e = true ∧ c.flat e = true then
        match srcOf R x with
        | some ⟨t', ys⟩ => if h : t' = t then
            .need ((xs.length + ys.length) * i.bytes ≤ 140737488355328 ∧ xs.length + ys.length ≤ 140737488355328)
              (.leaf (.vec base, [(r, .dead), (base, .vec t (xs ++ (h ▸ ys : List (El t))))]))
          else .fail
        | none => .fail
      else .fail
    | _, _ => .fail
  | _, _, _ => .fail

def aExtract (x : AVal El) (i : Nat) : Tree (AVal El) :=
  match x with
  | .tup vs => match vs[i]? with
    | some v => .leaf v
    | none => .fail
  | _ => .fail
end defs

section proofs
variable {I : Nat → Prop} {E : Env} {R : List (Res El)} {w : World} {c : Cx El} {L : Lay El}

theorem foldl_put (vs : List Value) (us : List Value) (off : Nat) (h : off + us.length ≤ vs.length) :
    (us.zipIdx.foldl (fun (cs : Array Value) (p : Value × Nat) => cs.setIfInBounds (off + p.2) p.1) vs.toArray) = (vs.take off ++ us ++ vs.drop (off + us.length)).toArray := by
  have key : ∀ (us : List Value) (k : Nat) (vs : List Value), off + k + us.length ≤ vs.length →
      ((us.zipIdx k).foldl (fun (cs : Array Value) (p : Value × Nat) => cs.setIfInBounds (off + p.2) p.1) vs.toArray) = (vs.take (off + k) ++ us ++ vs.drop (off + k + us.length)).toArray := by
    intro us
    induction us with
    | nil => intro k vs _; simp
    | cons u us ih =>
      intro k vs h
      simp only [List.zipIdx_cons, List.foldl_cons]
      rw [List.setIfInBounds_toArray, ih (k + 1) (vs.set (off + k) u) (by simp at h ⊢; omega)]
      congr 1
      have := list_seg_step vs (off + k) u us (by simp at h ⊢; omega)
      simpa [Nat.add_assoc] using this
  simpa using key us 0 vs (by simpa using h)

/-- Parts and their values, one by one. -/
def PartsRep (L : Lay El) (I : Nat → Prop) (w : World) (E : Env) : List (Nat × AVal El) → List (Nat × Value) → Prop
  | [], [] => True
  | (i, a) :: ps, (j, v) :: qs => i = j ∧ Rep L I w E a v ∧ PartsRep L I w E ps qs
  | _, _ => False

theorem aFill_ok {place : Nat → Option (Nat × Nat)} {parts : List (Nat × AVal El)} {pv : List (Nat × Value)} {cs r : List (AVal El)} {vs : List Value} (hp : PartsRep L I w E parts pv)
    (ho : aFill place cs parts = some r) (hr : Reps L I w E cs vs) (h1 : ∀ v ∈ vs, v.oneCell' = true) :
    ∃ us, Instr.fill place vs.toArray pv = some us.toArray ∧ Reps L I w E r us ∧ (∀ v ∈ us, v.oneCell' = true) := by
  induction parts generalizing pv cs vs with
  | nil =>
    cases pv with
    | nil => simp [aFill] at ho; subst ho; exact ⟨vs, rfl, hr, h1⟩
    | cons q qs => exact hp.elim
  | cons p ps ih =>
    obtain ⟨i, a⟩ := p
    cases pv with
    | nil => exact hp.elim
    | cons q qs =>
      obtain ⟨j, v⟩ := q
      obtain ⟨rfl, ha, hps⟩ := hp
      simp only [aFill] at ho
      split at ho
      · rename_i off size ds hpl hds
        split at ho
        · rename_i hlen
          split at ho
          · rename_i cs' hput
            obtain ⟨rfl, hle⟩ := putF_some hput
            obtain ⟨us, g1, g2, g3⟩ := ha.cells_of hds
            have hsz : v.cells.size = size := by rw [g1, ← hlen]; simpa using g2.len.symm
            have hle' : off + us.length ≤ vs.length := by rw [← g2.len, ← hr.len]; exact hle
            obtain ⟨us', k1, k2, k3⟩ := ih hps ho (splice_reps hr g2 off) (one_splice h1 g3 _ _)
            refine ⟨us', ?_, k2, k3⟩
            simp only [Instr.fill, hpl]
            rw [if_neg (by rw [hsz]; simp; rw [g1] at hsz; simp at hsz; omega), g1]
            have hz : us.toArray.zipIdx.foldl (fun (cs : Array Value) (p : Value × Nat) => cs.setIfInBounds (off + p.2) p.1) vs.toArray = (vs.take off ++ us ++ vs.drop (off + us.length)).toArray := by
              rw [← foldl_put vs us off hle']
              rw [← Array.foldl_toList, Array.toList_zipIdx]
            rw [← k1]
            congr 1
          · cases ho
        · cases ho
      · cases ho

theorem placesOf_ok {fs : List Field} {pl : List (Nat × Nat)} (h : placesOf c fs = some pl) : fs.mapM (fun f => (c.P.info? f.type).map fun i => (f.offset, i.size)) = some pl := by
  induction fs generalizing pl with
  | nil => simp [placesOf] at h; subst h; simp
  | cons f fs ih =>
    simp only [placesOf] at h
    split at h
    · rename_i n l h1 h2
      simp only [Option.some.injEq] at h; subst h
      cases hi : c.P.info? f.type with
      | none => simp [hi] at h1
      | some i => simp [hi] at h1; simp [hi, ih h2, h1]
    · cases h

theorem aBuild_ok {t : TypeId} {parts : List (Nat × AVal El)} {pv : List (Nat × Value)} {r : AVal El} (hp : PartsRep c.L I w E parts pv) (ho : (aBuild c t parts).Out r) :
    ∃ v, (Instr.build t pv.toArray).run c.P w = .ok v w ∧ Rep c.L I w E r v := by
  unfold aBuild at ho
  split at ho
  · rename_i z fs hz hu
    split at ho
    · rename_i cs pl hcs hpl
      split at ho
      · rename_i r' hf
        simp only [Tree.Out] at ho; subst ho
        obtain ⟨k1, k2⟩ := absL_ok (L := c.L) (I := I) (w := w) (E := E) hcs
        obtain ⟨us, g1, g2, g3⟩ := aFill_ok hp hf k1 k2
        refine ⟨.agg us.toArray, ?_, g2.agg g3⟩
        refine run_build w t pv.toArray us.toArray ?_
        have hp' := placesOf_ok hpl
        cases hi : c.P.info? t with
        | none => simp [hi] at hz
        | some i =>
          simp [hi] at hz
          simp only [Program.built, hi, hu, hz, hp']
          simpa using g1
      · exact ho.elim
    · exact ho.elim
  · rename_i z n e hz hu
    split at ho
    · rename_i cs s hcs hs
      split at ho
      · rename_i r' hf
        simp only [Tree.Out] at ho; subst ho
        obtain ⟨k1, k2⟩ := absL_ok (L := c.L) (I := I) (w := w) (E := E) hcs
        obtain ⟨us, g1, g2, g3⟩ := aFill_ok hp hf k1 k2
        refine ⟨.agg us.toArray, ?_, g2.agg g3⟩
        refine run_build w t pv.toArray us.toArray ?_
        cases hi : c.P.info? t with
        | none => simp [hi] at hz
        | some i =>
          cases hie : c.P.info? e with
          | none => simp [hie] at hs
          | some ie =>
            simp [hi] at hz
            simp [hie] at hs
            simp only [Program.built, hi, hu, hz, hie, hs]
            simpa using g1
      · exact ho.elim
    · exact ho.elim
  · exact ho.elim

theorem aLen_ok (h : HR c.L I w E R) {t ty : TypeId} {x r : AVal El} {v : Value} (hx : Rep c.L I w E x v) (ho : (aLen c R t x).Out r) :
    ∃ u, (Builtin.len_ #[t] ty #[v]).run c.P w = .ok u w ∧ Rep c.L I w E r u := by
  unfold aLen at ho
  split at ho
  · rename_i n e hu
    simp only [Tree.Out] at ho; subst ho
    exact ⟨_, by simp [Builtin.len_, run_underlying hu]; rfl, .int⟩
  · rename_i e hu
    split at ho
    · simp only [Tree.Out] at ho; subst ho
      cases hx with
      | listNil => exact ⟨_, by simp [Builtin.len_, run_underlying hu]; rfl, .int⟩
      | list h1 h2 h3 => subst h3; exact ⟨_, by simp [Builtin.len_, run_underlying hu]; rfl, .int⟩
    · simp only [Tree.Out] at ho; subst ho; cases hx
      exact ⟨_, by simp [Builtin.len_, run_underlying hu]; rfl, .int⟩
    · simp only [Tree.Out] at ho; subst ho; cases hx
      exact ⟨_, by simp [Builtin.len_, run_underlying hu]; rfl, .int⟩
    · rename_i r'
      split at ho
      · rename_i t' xs hg
        simp only [Tree.Out] at ho; subst ho
        obtain ⟨e', h1, h2⟩ := h.res r' (by rw [hg]; simp)
        rw [hg] at h2
        cases hx with
        | vec he hone =>
          rw [h1] at he; cases he
          rcases h2 with ⟨_, rfl, a, k⟩ | ⟨b', cap, cells, vals, k1, k, _⟩
          · rw [k]; exact ⟨_, by simp [Builtin.len_, run_underlying hu]; rfl, .int⟩
          · rw [k]; exact ⟨_, by simp [Builtin.len_, run_underlying hu]; rfl, .int⟩
      · exact ho.elim
    · exact ho.elim
  · exact ho.elim

theorem aExtract_ok {x r : AVal El} {v : Value} {i : Nat} (hx : Rep L I w E x v) (ho : (aExtract x i).Out r) : ∃ u, (Instr.extract v i).run c.P w = .ok u w ∧ Rep L I w E r u := by
  unfold aExtract at ho
  split at ho
  · rename_i vs
    split at ho
    · rename_i a ha
      simp only [Tree.Out] at ho; subst ho
      cases hx with
      | tup hl hh =>
        rename_i us
        have hi : i < us.length := by
          rcases Nat.lt_or_ge i vs.length with h' | h'
          · omega
          · rw [List.getElem?_eq_none h'] at ha; cases ha
        exact ⟨us[i], by simp [Instr.extract, hi], hh i a _ ha (List.getElem?_eq_getElem hi)⟩
    · exact ho.elim
  · exact ho.elim
end proofs
end Go.Ax
