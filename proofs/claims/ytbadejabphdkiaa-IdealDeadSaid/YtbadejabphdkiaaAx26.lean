/- A verified symbolic executor, part 26: maps. Maps of plain numbers are lists of pairs; maps whose keys are written out are lists of keys and values. Over any program; the facts on its types are given with it. -/
import Derived.Test.YtbadejabphdkiaaAx9
import Derived.MapKept
import Derived.WideKeyRuns
set_option linter.unusedVariables false
set_option linter.unusedSimpArgs false
namespace Go.Ax
variable {El : TypeId → Type}

section plain
variable {X : Type}
def findM : List (Int × X) → Int → Option X
  | [], _ => none
  | p :: m, n => if n = p.1 then some p.2 else findM m n
def hasM : List (Int × X) → Int → Bool
  | [], _ => false
  | p :: m, n => if n = p.1 then true else hasM m n
def setM : List (Int × X) → Int → X → List (Int × X)
  | [], n, x => [(n, x)]
  | p :: m, n, x => if n = p.1 then (n, x) :: m else p :: setM m n x
def delM : List (Int × X) → Int → List (Int × X)
  | [], _ => []
  | p :: m, n => if n = p.1 then m else p :: delM m n
def getM (m : List (Int × X)) (n : Int) (d : X) : X := match findM m n with
  | some x => x
  | none => d
end plain

section ents
variable {L : Lay El} {w : World} {k : IntKind} {t : TypeId}
theorem EntS.find {l : List MapEntry} {m : List (Int × El t)} (h : EntS L w k t l m) (n : Int) (i : Nat) :
    (Instr.findNow (.int k) (.int k n) l i = some none ∧ findM m n = none ∧ hasM m n = false ∧ (∀ x, setM m n x = m ++ [(n, x)]) ∧ delM m n = m) ∨
    ∃ j q x, Instr.findNow (.int k) (.int k n) l i = some (some (i + j, q.val)) ∧ l[j]? = some q ∧ q.key = .int k n ∧ findM m n = some x ∧ hasM m n = true ∧
      (∀ a, L.enc t x = [a] → Rep L (fun _ => False) w noE a q.val ∧ q.val.oneCell' = true) ∧ (∀ y, setM m n y = m.set j (n, y)) ∧ delM m n = m.eraseIdx j := by
  induction l generalizing m i with
  | nil => cases m with
    | nil => exact .inl ⟨rfl, rfl, rfl, fun x => rfl, rfl⟩
    | cons p m => exact h.elim
  | cons q l ih => cases m with
    | nil => exact h.elim
    | cons p m =>
      obtain ⟨⟨h1, h2⟩, h3⟩ := h
      by_cases hn : n = p.1
      · refine .inr ⟨0, q, p.2, ?_, rfl, by rw [h1, hn], by simp [findM, hn], by simp [hasM, hn], h2, fun y => by simp [setM, hn], by simp [delM, hn]⟩
        simp [Instr.findNow, Instr.sameNow, h1, hn]
      · have hb : (n == p.1) = false := by simpa using hn
        rcases ih h3 (i + 1) with ⟨k1, k2, k3, k4, k5⟩ | ⟨j, q', x, k1, k2, k3, k4, k5, k6, k7, k8⟩
        · refine .inl ⟨?_, by simp [findM, hn, k2], by simp [hasM, hn, k3], fun x => by simp [setM, hn, k4], by simp [delM, hn, k5]⟩
          simp [Instr.findNow, Instr.sameNow, h1, hb, k1]
        · refine .inr ⟨j + 1, q', x, ?_, by simpa using k2, k3, by simp [findM, hn, k4], by simp [hasM, hn, k5], k6, fun y => by simp [setM, hn, k7], by simp [delM, hn, k8]⟩
          simp [Instr.findNow, Instr.sameNow, h1, hb, k1]; omega
theorem EntS.len {l : List MapEntry} {m : List (Int × El t)} (h : EntS L w k t l m) : l.length = m.length := by
  induction l generalizing m with
  | nil => cases m with
    | nil => rfl
    | cons p m => exact h.elim
  | cons q l ih => cases m with
    | nil => exact h.elim
    | cons p m => simp [ih h.2]
theorem EntS.snoc {l : List MapEntry} {m : List (Int × El t)} (h : EntS L w k t l m) {q : MapEntry} {p : Int × El t} (hq : q.key = .int k p.1 ∧ ∀ a, L.enc t p.2 = [a] → Rep L (fun _ => False) w noE a q.val ∧ q.val.oneCell' = true) :
    EntS L w k t (l ++ [q]) (m ++ [p]) := by
  induction l generalizing m with
  | nil => cases m with
    | nil => exact ⟨hq, trivial⟩
    | cons p m => exact h.elim
  | cons q' l ih => cases m with
    | nil => exact h.elim
    | cons p' m => exact ⟨h.1, ih h.2⟩
theorem EntS.set {l : List MapEntry} {m : List (Int × El t)} (h : EntS L w k t l m) {j : Nat} {f : MapEntry → MapEntry} {p : Int × El t} (hq : ∀ q, l[j]? = some q → (f q).key = .int k p.1 ∧ ∀ a, L.enc t p.2 = [a] → Rep L (fun _ => False) w noE a (f q).val ∧ (f q).val.oneCell' = true) :
    EntS L w k t (l.modify j f) (m.set j p) := by
  induction l generalizing m j with
  | nil => cases m with
    | nil => simp [EntS]
    | cons p m => exact h.elim
  | cons q' l ih => cases m with
    | nil => exact h.elim
    | cons p' m => cases j with
      | zero => exact ⟨hq q' rfl, h.2⟩
      | succ j => exact ⟨h.1, ih h.2 (fun q hq' => hq q (by simpa using hq'))⟩
theorem EntS.erase {l : List MapEntry} {m : List (Int × El t)} (h : EntS L w k t l m) (j : Nat) : EntS L w k t (l.eraseIdx j) (m.eraseIdx j) := by
  induction l generalizing m j with
  | nil => cases m with
    | nil => simp [EntS]
    | cons p m => exact h.elim
  | cons q' l ih => cases m with
    | nil => exact h.elim
    | cons p' m => cases j with
      | zero => exact h.2
      | succ j => exact ⟨h.1, ih h.2 j⟩
end ents

section defs
variable (c : Cx El) (R : List (Res El))

def notAgg : Value → Bool
  | .agg _ => false
  | _ => true
def packL (ok : Bool) (v : AVal El) (b : Bool) : AVal El := match ok with
  | true => .tup [v, .bool b]
  | false => v
def eqKey : AVal El → AVal El → Option Bool
  | .int k n, .int k' m => if k = k' then some (n == m) else none
  | .agg cs, .agg ds => eqCells cs ds
  | _, _ => none
def shpK (kt : TypeId) : AVal El → Bool
  | .int k _ => match c.P.underlying kt with
    | some (.int k') => decide (k' = k)
    | _ => false
  | .agg cs => match c.eqT kt with
    | some s => c.keyT kt && shpC cs s
    | none => false
  | _ => false
/-- Every other value is a key of the type. -/
def shpE (kt : TypeId) : List (AVal El) → Bool
  | k :: _ :: l => shpK c kt k && shpE kt l
  | [] => true
  | _ => false
/-- The key can be compared with every entry's. -/
def eqAll (key : AVal El) : List (AVal El) → Bool
  | k :: _ :: l => (match eqKey key k with | some _ => true | none => false) && eqAll key l
  | [] => true
  | _ => false
def lookC (ok : Bool) (z key : AVal El) : List (AVal El) → Tree (AVal El)
  | k :: v :: l => match eqKey key k with
    | some b => .node b (.leaf (packL ok v true)) (lookC ok z key l)
    | none => .fail
  | [] => .leaf (packL ok z false)
  | _ => .fail
def aLookup (t : TypeId) (a key : AVal El) (ok : Bool) : Tree (AVal El) :=
  match c.P.underlying t with
  | some (.map kt et) => match (c.P.info? et).bind (·.zero) with
    | some z => match a with
      | .nilm => match shpK c kt key with
        | true => match key with
          | .int _ _ => .leaf (packL ok (absV z) false)
          | _ => .fail
        | false => .fail
      | .mapr r => match getR R r with
        | .mapS k t' m => match key, c.P.underlying kt with
          | .int k1 n, some (.int k2) => if k1 = k ∧ k2 = k ∧ t' = et ∧ c.known t' = true ∧ c.L.sz t' = 1 ∧ notAgg z = true then .leaf (packL ok (nth (c.L.enc t' (getM m n (c.L.dflt t'))) 0) (hasM m n)) else .fail
          | _, _ => .fail
        | .mapC cs => match shpK c kt key && (shpE c kt cs && eqAll key cs) with
          | true => lookC ok (absV z) key cs
          | false => .fail
        | _ => .fail
      | _ => .fail
    | none => .fail
  | _ => .fail
/-- No entry has the key. -/
def newC {X : Type} (key : AVal El) (y : X) : List (AVal El) → Tree X
  | k :: _ :: l => match eqKey key k with
    | some b => .node b .fail (newC key y l)
    | none => .fail
  | [] => .leaf y
  | _ => .fail
def aUpdate (t : TypeId) (a key x : AVal El) : Tree (Eff El) :=
  match c.P.underlying t with
  | some (.map kt et) => match a with
    | .mapr r => match getR R r with
      | .mapS k t' m => match key, c.P.underlying kt with
        | .int k1 n, some (.int k2) => if k1 = k ∧ k2 = k ∧ c.flat t' = true ∧ c.L.sz t' = 1 then match c.L.dec t' [x] with
            | some v => .leaf (.top, [(r, .mapS k t' (setM m n v))])
            | none => .fail
          else .fail
        | _, _ => .fail
      | .mapC cs => match shpK c kt key && (shpE c kt cs && eqAll key cs) with
        | true => newC key (.top, [(r, .mapC (cs ++ [key, x]))]) cs
        | false => .fail
      | _ => .fail
    | _ => .fail
  | _ => .fail
def aDelete (t : TypeId) (a key : AVal El) : Tree (Eff El) :=
  match c.P.underlying t with
  | some (.map kt et) => match a with
    | .mapr r => match getR R r with
      | .mapS k t' m => match key, c.P.underlying kt with
        | .int k1 n, some (.int k2) => if k1 = k ∧ k2 = k then .leaf (.tup [], [(r, .mapS k t' (delM m n))]) else .fail
        | _, _ => .fail
      | _ => .fail
    | _ => .fail
  | _ => .fail
def aMakeMap (base : Nat) (t : TypeId) : Tree (Eff El) :=
  match c.P.underlying t with
  | some (.map kt et) => match c.P.underlying kt, c.known et with
    | some (.int k), true => .leaf (.mapr base, [(base, .mapS k et [])])
    | _, _ => .leaf (.mapr base, [(base, .mapC [])])
  | _ => .fail
def aLenM (t : TypeId) (x : AVal El) : Tree (AVal El) := match x with
  | .mapr r => match c.P.underlying t, getR R r with
    | some (.map _ _), .mapS _ _ m => .leaf (.int .i64 m.length)
    | _, _ => .fail
  | x => aLen c R t x
end defs

section proofs
variable {I : Nat → Prop} {E : Env} {R : List (Res El)} {w : World} {c : Cx El}

theorem mapS_at (h : HR c.L I w E R) {r : Nat} {k : IntKind} {t : TypeId} {m : List (Int × El t)} {v : Value} (hg : getR R r = .mapS k t m) (hv : Rep c.L I w E (.mapr r) v) :
    ∃ e b arr clock, E r = some e ∧ e.blk = some b ∧ v = .map (some b) ∧ w.heap[b]? = some (.map arr clock) ∧ EntS c.L w k t arr.toList m := by
  obtain ⟨e, h1, h2⟩ := h.res r (by rw [hg]; simp)
  rw [hg] at h2
  obtain ⟨b, arr, clock, g1, g2, g3⟩ := h2
  cases hv with
  | mapr he => rw [h1] at he; cases he; cases g1; exact ⟨_, b, arr, clock, h1, rfl, rfl, g2, g3⟩
theorem mapC_at (h : HR c.L I w E R) {r : Nat} {cs : List (AVal El)} {v : Value} (hg : getR R r = .mapC cs) (hv : Rep c.L I w E (.mapr r) v) :
    ∃ e b arr clock l, E r = some e ∧ e.blk = some b ∧ v = .map (some b) ∧ w.heap[b]? = some (.map arr clock) ∧ Reps c.L I w E cs (entL l) ∧ List.Perm l arr.toList ∧ (l.map (·.key)).Nodup := by
  obtain ⟨e, h1, h2⟩ := h.res r (by rw [hg]; simp)
  rw [hg] at h2
  obtain ⟨b, arr, clock, l, g1, g2, g3, g4⟩ := h2
  cases hv with
  | mapr he => rw [h1] at he; cases he; cases g1; exact ⟨_, b, arr, clock, l, h1, rfl, rfl, g2, g3, g4⟩

theorem run_zeroAt {P : Program} {t : TypeId} {z : Value} (h : (P.info? t).bind (·.zero) = some z) (w : World) : (zeroValue t).run P w = .ok z w := by
  cases hi : P.info? t with
  | none => rw [hi] at h; cases h
  | some i =>
    rw [hi] at h
    have h : i.zero = some z := h
    simp [zeroValue, typeInfo, hi, h, Result.andThen]

theorem packL_ok {ok : Bool} {x : AVal El} {b : Bool} {v : Value} (h : Rep c.L I w E x v) : Rep c.L I w E (packL ok x b) (if ok = true then Value.tuple #[v, .bool b] else v) := by
  cases ok with
  | true => exact .tup (vs := [v, .bool b]) rfl (fun i c' v' hc hv => by
      match i with
      | 0 => simp at hc hv; subst hc hv; exact h
      | 1 => simp at hc hv; subst hc hv; exact .bool
      | i + 2 => simp at hc)
  | false => exact h
theorem enc_one {t : TypeId} (h : c.L.sz t = 1) (x : El t) : ∃ a, c.L.enc t x = [a] := by
  have := c.L.enc_len t x
  rw [h] at this
  match hx : c.L.enc t x with
  | [] => rw [hx] at this; simp at this
  | [a] => exact ⟨a, rfl⟩
  | _ :: _ :: _ => rw [hx] at this; simp at this
theorem run_equal_of_bin {P : Program} {t : TypeId} {xs ys : Array Value} {r : Bool} (h : (binOp .eql t (.agg xs) (.agg ys)).run P w = .ok (.bool r) w) : (Op.equal t (.agg xs) (.agg ys)).run P w = .ok r w := by
  have e : binOp .eql t (.agg xs) (.agg ys) = (do pure (.bool (← Op.equal t (.agg xs) (.agg ys)))) := rfl
  rw [e] at h
  simp only [Sem.run_bind, Result.andThen] at h
  cases hq : (Op.equal t (.agg xs) (.agg ys)).run P w with
  | halt _ _ => rw [hq] at h; simp at h
  | ok b w' => rw [hq] at h; simp at h; obtain ⟨rfl, rfl⟩ := h; rfl
theorem eqKey_int {k : IntKind} {n : Int} {a : AVal El} {b : Bool} (h : eqKey (.int k n) a = some b) : ∃ m, a = .int k m ∧ b = (n == m) := by
  cases a <;> simp only [eqKey] at h <;> try (cases h; done)
  split at h
  · rename_i k' m hk; subst hk; cases h; exact ⟨m, rfl, rfl⟩
  · cases h
theorem eqKey_agg {ks : List (AVal El)} {a : AVal El} {b : Bool} (h : eqKey (.agg ks) a = some b) : ∃ ds, a = .agg ds ∧ eqCells ks ds = some b := by
  cases a <;> simp only [eqKey] at h <;> first | (cases h; done) | exact ⟨_, rfl, h⟩
theorem isKey_int (k : IntKind) (n : Int) : MapKept.IsKey (.int k) (.int k n) := rfl
theorem check_int {P : Program} {kt : TypeId} {k : IntKind} (hk : P.underlying kt = some (.int k)) (n : Int) (em : Bool) (w : World) : (Instr.checkKey em 10000 kt (.int k n)).run P w = .ok () w := MapKept.run_checkKey hk (isKey_int k n) em 9999
theorem rep_int_eq {k : IntKind} {n : Int} {v : Value} (h : Rep c.L I w E (.int k n) v) : v = .int k n := by cases h; rfl
/-- Flat cells that are compared: equal, if and only if their values are. -/
theorem eqCells_iff {cs ds : List (AVal El)} {vs us : List Value} {b : Bool} (h : eqCells cs ds = some b) (hc : Reps c.L I w E cs vs) (hd : Reps c.L I w E ds us) : b = true ↔ vs = us := by
  induction cs generalizing ds vs us b with
  | nil =>
    cases ds with
    | nil => rw [hc.inv_nil, hd.inv_nil]; simp [eqCells] at h; simp [← h]
    | cons d ds => simp [eqCells] at h
  | cons a cs ih =>
    cases ds with
    | nil => cases a <;> simp [eqCells] at h
    | cons d ds =>
      obtain ⟨v, vs', rfl, h1, h2⟩ := hc.inv_cons
      obtain ⟨u, us', rfl, h3, h4⟩ := hd.inv_cons
      unfold eqCells at h
      split at h <;> try (simp at *; done)
      · rename_i q1 q2
        cases q1; cases q2
        split at h
        · rename_i hk
          subst hk
          simp only [Option.map_eq_some_iff] at h
          obtain ⟨r, g1, g2⟩ := h
          have := ih g1 h2 h4
          cases h1; cases h3
          subst g2
          simp [this]
        · cases h
      · rename_i q1 q2
        cases q1; cases q2
        simp only [Option.map_eq_some_iff] at h
        obtain ⟨r, g1, g2⟩ := h
        have := ih g1 h2 h4
        cases h1; cases h3
        subst g2
        simp [this]
theorem eqKey_iff {a a' : AVal El} {v v' : Value} {b : Bool} (h : eqKey a a' = some b) (ha : Rep c.L I w E a v) (ha' : Rep c.L I w E a' v') : b = true ↔ v = v' := by
  unfold eqKey at h
  split at h
  · split at h
    · rename_i hk
      subst hk
      cases h; cases ha; cases ha'
      simp
    · cases h
  · cases ha with
    | agg hl hh h1 =>
      cases ha' with
      | agg hl' hh' h1' =>
        have := eqCells_iff h ⟨hl, hh⟩ ⟨hl', hh'⟩
        rw [this]
        simp
  · cases h
/-- What stands for an entry. -/
theorem entL_mem {cs : List (AVal El)} {l : List MapEntry} (hc : Reps c.L I w E cs (entL l)) {kt : TypeId} (hs : shpE c kt cs = true) {key : AVal El} (he : eqAll key cs = true) {q : MapEntry} (hq : q ∈ l) :
    ∃ ka b, shpK c kt ka = true ∧ Rep c.L I w E ka q.key ∧ eqKey key ka = some b := by
  induction l generalizing cs with
  | nil => cases hq
  | cons q' l ih =>
    match cs with
    | [] => have := hc.len; simp [entL] at this
    | [_] => have := hc.len; simp [entL] at this
    | a :: v :: cs =>
      obtain ⟨va, vs', e1, h1, h2⟩ := hc.inv_cons
      obtain ⟨vv, vs'', e2, h3, h4⟩ := h2.inv_cons
      subst e2
      simp only [entL, List.cons.injEq] at e1
      obtain ⟨rfl, rfl, rfl⟩ := e1
      simp only [shpE, Bool.and_eq_true] at hs
      simp only [eqAll, Bool.and_eq_true] at he
      rcases List.mem_cons.1 hq with rfl | hq
      · have := he.1
        split at this
        · rename_i b hb; exact ⟨a, b, hs.1, h1, hb⟩
        · cases this
      · exact ih h4 hs.2 he.2 hq
/-- What a look-up comes to, entry by entry. -/
theorem lookC_spec {key : AVal El} {vk : Value} (hk : Rep c.L I w E key vk) {ok : Bool} {z y : AVal El} {cs : List (AVal El)} {l : List MapEntry} (hc : Reps c.L I w E cs (entL l)) (ho : (lookC ok z key cs).Out y) :
    (y = packL ok z false ∧ ∀ q ∈ l, q.key ≠ vk) ∨ ∃ q x, q ∈ l ∧ q.key = vk ∧ Rep c.L I w E x q.val ∧ y = packL ok x true := by
  induction l generalizing cs with
  | nil =>
    cases cs with
    | nil => exact .inl ⟨ho.symm, fun q hq => by cases hq⟩
    | cons a cs => have := hc.len; simp [entL] at this
  | cons q l ih =>
    match cs with
    | [] => have := hc.len; simp [entL] at this
    | [_] => have := hc.len; simp [entL] at this
    | a :: v :: cs =>
      obtain ⟨va, vs', e1, h1, h2⟩ := hc.inv_cons
      obtain ⟨vv, vs'', e2, h3, h4⟩ := h2.inv_cons
      subst e2
      simp only [entL, List.cons.injEq] at e1
      obtain ⟨rfl, rfl, rfl⟩ := e1
      simp only [lookC] at ho
      split at ho
      · rename_i b hb
        have hiff := eqKey_iff hb hk h1
        simp only [Tree.Out] at ho
        rcases ho with ⟨hbt, ho⟩ | ⟨hbf, ho⟩
        · exact .inr ⟨q, v, List.mem_cons_self .., (hiff.1 hbt).symm, h3, ho.symm⟩
        · rcases ih h4 ho with ⟨g1, g2⟩ | ⟨q', x, g1, g2⟩
          · refine .inl ⟨g1, fun q' hq' => ?_⟩
            rcases List.mem_cons.1 hq' with rfl | hq'
            · intro he; rw [hiff.2 he.symm] at hbf; cases hbf
            · exact g2 q' hq'
          · exact .inr ⟨q', x, List.mem_cons_of_mem _ g1, g2⟩
      · exact ho.elim
theorem shpV_one {vs : List Value} {s : List Bool} (h : shpV vs s = true) : ∀ v ∈ vs, v.oneCell' = true := by
  induction vs generalizing s with
  | nil => intro v hv; cases hv
  | cons x vs ih =>
    intro v hv
    cases s with
    | nil => cases x <;> simp [shpV] at h
    | cons b s =>
      cases x <;> cases b <;> simp [shpV] at h
      all_goals
        rcases List.mem_cons.1 hv with rfl | hv
        · rfl
        · exact ih h v hv
theorem ask_spec {kt : TypeId} {ks : List (AVal El)} {vs : List Value} {s : List Bool} (hs0 : c.eqT kt = some s) (hks : Reps c.L I w E ks vs) (hsh : shpC ks s = true) {l : List MapEntry}
    (hl : ∀ q ∈ l, ∃ ka b, Rep c.L I w E ka q.key ∧ eqKey (.agg ks) ka = some b) (i : Nat) :
    ((Instr.findAsking kt (.agg vs.toArray) l i).run c.P w = .ok none w ∧ ∀ q ∈ l, q.key ≠ .agg vs.toArray) ∨ ∃ j q, (Instr.findAsking kt (.agg vs.toArray) l i).run c.P w = .ok (some (i + j, q.val)) w ∧ l[j]? = some q ∧ q.key = .agg vs.toArray := by
  induction l generalizing i with
  | nil => exact .inl ⟨by simp [Instr.findAsking], fun q hq => by cases hq⟩
  | cons q l ih =>
    obtain ⟨ka, b, h1, hb⟩ := hl q (List.mem_cons_self ..)
    obtain ⟨ds, rfl, hb'⟩ := eqKey_agg hb
    have hiff := eqKey_iff hb (Rep.agg hks.len hks.at_ (shpV_one (shpC_ok hsh hks))) h1
    generalize hqk : q.key = kv at h1 hiff
    cases h1 with
    | agg hl' hh h1 =>
      rename_i us
      have hv := eqCells_ok hb' hks ⟨hl', hh⟩
      have hr := run_equal_of_bin (c.eq_ok kt s hs0 vs us b hv (shpC_ok hsh hks) w (.const (.bool true)) (.const (.bool true))).2.2.1
      cases b with
      | true => exact .inr ⟨0, q, by simp [Instr.findAsking, hqk, hr, Result.andThen], rfl, by rw [hqk]; exact (hiff.1 rfl).symm⟩
      | false =>
        have hne : q.key ≠ .agg vs.toArray := fun he => by rw [hqk] at he; have := hiff.2 he.symm; cases this
        rcases ih (fun q' hq' => hl q' (List.mem_cons_of_mem _ hq')) (i + 1) with ⟨g1, g2⟩ | ⟨j, q', g1, g2, g3⟩
        · refine .inl ⟨by simp [Instr.findAsking, hqk, hr, Result.andThen, g1], fun q' hq' => ?_⟩
          rcases List.mem_cons.1 hq' with rfl | hq'
          · exact hne
          · exact g2 q' hq'
        · exact .inr ⟨j + 1, q', by simp [Instr.findAsking, hqk, hr, Result.andThen, g1]; omega, by simpa using g2, g3⟩
/-- A search over entries whose keys can be compared. -/
theorem find_spec {kt : TypeId} {key : AVal El} {vk : Value} (hs : shpK c kt key = true) (hk : Rep c.L I w E key vk) : (∀ em, (Instr.checkKey em 10000 kt vk).run c.P w = .ok () w) ∧
    ∀ {l : List MapEntry}, (∀ q ∈ l, ∃ ka b, shpK c kt ka = true ∧ Rep c.L I w E ka q.key ∧ eqKey key ka = some b) →
      ((Instr.findKey kt vk l).run c.P w = .ok none w ∧ ∀ q ∈ l, q.key ≠ vk) ∨ ∃ j q, (Instr.findKey kt vk l).run c.P w = .ok (some (j, q.val)) w ∧ l[j]? = some q ∧ q.key = vk := by
  unfold shpK at hs
  split at hs
  · rename_i k n
    split at hs
    · rename_i k' hu
      have : k' = k := of_decide_eq_true hs
      subst this
      cases hk
      refine ⟨fun em => check_int hu n em w, fun {l} hl => ?_⟩
      have hkeys : ∀ x ∈ l, MapKept.IsKey (.int k') x.key := fun x hx => by
        obtain ⟨ka, b, _, h1, h2⟩ := hl x hx
        obtain ⟨m, rfl, _⟩ := eqKey_int h2
        rw [rep_int_eq h1]; exact isKey_int _ _
      rcases MapKept.findNow_spec (isKey_int k' n) l 0 hkeys with ⟨h1, h2⟩ | ⟨j, e, h1, h2, h3⟩
      · exact .inl ⟨MapKept.run_findKey hu h1, h2⟩
      · exact .inr ⟨0 + j, e, MapKept.run_findKey hu h1, by simpa using h2, h3⟩
    · cases hs
  · rename_i ks
    split at hs
    · rename_i s hs0
      simp only [Bool.and_eq_true] at hs
      cases hk with
      | agg hl hh h1 =>
        rename_i vs
        obtain ⟨g1, g2⟩ := c.key_ok kt hs.1
        refine ⟨fun em => g2 s hs0 vs (shpC_ok hs.2 ⟨hl, hh⟩) em w, fun {l} hq => ?_⟩
        rcases ask_spec hs0 ⟨hl, hh⟩ hs.2 (fun q hq' => by obtain ⟨ka, b, _, k1, k2⟩ := hq q hq'; exact ⟨ka, b, k1, k2⟩) 0 with ⟨f1, f2⟩ | ⟨j, q, f1, f2, f3⟩
        · exact .inl ⟨by rw [run_findKey_eq w g1]; exact f1, f2⟩
        · exact .inr ⟨0 + j, q, by rw [run_findKey_eq w g1]; exact f1, by simpa using f2, f3⟩
    · cases hs
  · cases hs
theorem nodup_key {l : List MapEntry} (h : (l.map (·.key)).Nodup) {q q' : MapEntry} (h1 : q ∈ l) (h2 : q' ∈ l) (he : q.key = q'.key) : q = q' := by
  induction l with
  | nil => cases h1
  | cons a l ih =>
    simp only [List.map_cons, List.nodup_cons] at h
    rcases List.mem_cons.1 h1 with e1 | k1
    · rcases List.mem_cons.1 h2 with e2 | k2
      · exact e1.trans e2.symm
      · exact absurd (List.mem_map.2 ⟨q', k2, by rw [← he, e1]⟩) h.1
    · rcases List.mem_cons.1 h2 with e2 | k2
      · exact absurd (List.mem_map.2 ⟨q, k1, by rw [he, e2]⟩) h.1
      · exact ih h.2 k1 k2
theorem aLookup_ok (hr : HR c.L I w E R) {t : TypeId} {a key y : AVal El} {ok : Bool} {va vk : Value} (ha : Rep c.L I w E a va) (hk : Rep c.L I w E key vk) (ho : (aLookup c R t a key ok).Out y) :
    ∃ u, (Instr.lookup t va vk ok).run c.P w = .ok u w ∧ Rep c.L I w E y u := by
  unfold aLookup at ho
  split at ho
  · rename_i kt et hu
    split at ho
    · rename_i z hz
      have hzr := run_zeroAt hz w
      split at ho
      · split at ho
        · rename_i hs
          split at ho
          · rename_i k n
            simp only [Tree.Out] at ho; subst ho
            cases ha
            obtain ⟨g1, g2⟩ := find_spec hs hk
            rcases g2 (l := []) (fun q hq => by cases hq) with ⟨g3, _⟩ | ⟨j, q, _, g3, _⟩
            · exact ⟨_, by simp [Instr.lookup, run_underlying hu, g1, g3, hzr, Result.andThen], packL_ok (absV_ok z)⟩
            · simp at g3
          · exact ho.elim
        · exact ho.elim
      · rename_i r
        split at ho
        · rename_i k t' m hg
          split at ho
          · rename_i k1 n k2 hku
            split at ho
            · rename_i hcond
              obtain ⟨rfl, rfl, rfl, hkn, hsz, hza⟩ := hcond
              simp only [Tree.Out] at ho; subst ho
              obtain ⟨e, b, arr, clock, g1, g2, rfl, g3, g4⟩ := mapS_at hr hg ha
              cases hk
              have hck := fun em => check_int hku n em w
              rcases g4.find n 0 with ⟨f1, f2, f3, _, _⟩ | ⟨j, q, x, f1, f2, f3, f4, f5, f6, _, _⟩
              · refine ⟨_, by simp [Instr.lookup, run_underlying hu, MapKept.run_getObj_map g3, hck, MapKept.run_findKey hku f1, hzr, Result.andThen]; rfl, ?_⟩
                rw [f3]
                refine packL_ok ?_
                simp only [getM, f2]
                obtain ⟨z', q1, q2, q3⟩ := c.zero_ok _ hkn
                rw [hz] at q1; cases q1
                obtain ⟨v, q4, q5, q6⟩ := q3 0 (by omega)
                obtain ⟨a0, ha0⟩ := enc_one hsz (c.L.dflt t')
                have q7 := q6 I w a0 (by rw [ha0]; rfl)
                have hzv : v = z := by
                  cases z <;> simp_all [notAgg, Value.cells]
                rw [ha0]
                subst hzv
                exact q7.mono (fun _ h => h) (fun _ _ => rfl) (fun r e h => by cases h)
              · refine ⟨_, by simp [Instr.lookup, run_underlying hu, MapKept.run_getObj_map g3, hck, MapKept.run_findKey hku f1, Result.andThen]; rfl, ?_⟩
                rw [f5]
                refine packL_ok ?_
                simp only [getM, f4]
                obtain ⟨a0, ha0⟩ := enc_one hsz x
                rw [ha0]
                exact (f6 a0 ha0).1.mono (fun _ h => h.elim) (fun _ h => h.elim) (fun r e h => by cases h)
            · exact ho.elim
          · exact ho.elim
        · rename_i cs hg
          split at ho
          · rename_i hs
            simp only [Bool.and_eq_true] at hs
            obtain ⟨e, b, arr, clock, l, g1, g2, rfl, g3, g4, g5, g6⟩ := mapC_at hr hg ha
            obtain ⟨k1, k2⟩ := find_spec hs.1 hk
            have hmem : ∀ q ∈ arr.toList, ∃ ka b, shpK c kt ka = true ∧ Rep c.L I w E ka q.key ∧ eqKey key ka = some b := fun q hq => entL_mem g4 hs.2.1 hs.2.2 (g5.mem_iff.2 hq)
            rcases lookC_spec hk g4 ho with ⟨q1, q2⟩ | ⟨q, x, q1, q2, q3, q4⟩
            · rcases k2 hmem with ⟨k3, _⟩ | ⟨j, q', _, k4, k5⟩
              · exact ⟨_, by simp [Instr.lookup, run_underlying hu, MapKept.run_getObj_map g3, k1, k3, hzr, Result.andThen]; rfl, by rw [q1]; exact packL_ok (absV_ok z)⟩
              · exact absurd k5 (q2 q' (g5.mem_iff.2 (List.mem_of_getElem? k4)))
            · rcases k2 hmem with ⟨_, k4⟩ | ⟨j, q', k3, k4, k5⟩
              · exact absurd q2 (k4 q (g5.mem_iff.1 q1))
              · have hqq : q' = q := nodup_key g6 (g5.mem_iff.2 (List.mem_of_getElem? k4)) q1 (k5.trans q2.symm)
                subst hqq
                exact ⟨_, by simp [Instr.lookup, run_underlying hu, MapKept.run_getObj_map g3, k1, k3, Result.andThen]; rfl, by rw [q4]; exact packL_ok q3⟩
          · exact ho.elim
        · exact ho.elim
      · exact ho.elim
    · exact ho.elim
  · exact ho.elim
theorem newC_out {X : Type} {key : AVal El} {y0 y : X} {cs : List (AVal El)} (h : (newC key y0 cs).Out y) : y = y0 ∧ ∀ (ok : Bool) (z : AVal El), (lookC ok z key cs).Out (packL ok z false) := by
  match cs, h with
  | [], h => exact ⟨h.symm, fun ok z => rfl⟩
  | [_], h => exact h.elim
  | k :: v :: l, h =>
    simp only [newC] at h
    split at h
    · rename_i b hb
      simp only [Tree.Out] at h
      rcases h with ⟨_, h⟩ | ⟨h0, h⟩
      · exact h.elim
      · obtain ⟨g1, g2⟩ := newC_out h
        refine ⟨g1, fun ok z => ?_⟩
        simp only [lookC, hb, Tree.Out]
        exact .inr ⟨h0, g2 ok z⟩
    · exact h.elim
theorem entL_snoc (l : List MapEntry) (q : MapEntry) : entL (l ++ [q]) = entL l ++ [q.key, q.val] := by
  induction l with
  | nil => rfl
  | cons a l ih => simp [entL, ih]
theorem post_write (hr : HR c.L I w E R) {r : Nat} {e : REnv} {b : Nat} {o o' : Obj} (hg : getR R r ≠ .dead) (he : E r = some e) (hb : e.blk = some b) (ho : w.heap[b]? = some o) (x : Res El) (hxd : x ≠ .dead) {base : Nat} {y : AVal El} {v : Value}
    (hx : (∀ k, I k → (w.heap.setIfInBounds b o')[k]? = w.heap[k]?) → HRes c.L I { w with heap := w.heap.setIfInBounds b o' } E e x) (hy : Rep c.L I { w with heap := w.heap.setIfInBounds b o' } E y v) :
    Post c.L I E R w base [(r, x)] y v { w with heap := w.heap.setIfInBounds b o' } I E := by
  have hI : ∀ k, I k → (w.heap.setIfInBounds b o')[k]? = w.heap[k]? := fun k hk => (MapKept.heap_set ho).2 k (fun hkb => hr.notI b ⟨r, e, hg, he, hb⟩ (hkb ▸ hk))
  obtain ⟨h1, h2⟩ := hr.write (w' := { w with heap := w.heap.setIfInBounds b o' }) hg he hb x hxd rfl rfl rfl (by simp) (fun k hk => (MapKept.heap_set ho).2 k hk) (hx hI)
  exact ⟨h2, h1, hy, fun _ _ => rfl⟩
theorem flat_one {a : AVal El} {v : Value} (h : Rep c.L I w E a v) (hf : flatA a = true) : v.oneCell' = true := by
  cases h <;> first | (simp [flatA] at hf; done) | rfl
theorem aUpdate_ok (hr : HR c.L I w E R) {base : Nat} {t : TypeId} {a key x : AVal El} {y : Eff El} {va vk vx : Value} (ha : Rep c.L I w E a va) (hk : Rep c.L I w E key vk) (hx : Rep c.L I w E x vx) (ho : (aUpdate c R t a key x).Out y) :
    ∃ w' I' E', (Instr.mapUpdate t va vk vx).run c.P w = .ok () w' ∧ Post c.L I E R w base y.2 y.1 undef w' I' E' := by
  unfold aUpdate at ho
  split at ho
  · rename_i kt et hu
    split at ho
    · rename_i r
      split at ho
      · rename_i k t' m hg
        split at ho
        · rename_i k1 n k2 hku
          split at ho
          · rename_i hcond
            obtain ⟨rfl, rfl, hfl, hsz⟩ := hcond
            split at ho
            · rename_i v hdec
              simp only [Tree.Out] at ho; subst ho
              obtain ⟨e, b, arr, clock, g1, g2, rfl, g3, g4⟩ := mapS_at hr hg ha
              have henc := c.L.dec_enc _ _ _ hdec
              have hflx : flatA x = true := by
                have := c.flat_ok t' hfl v
                rw [henc] at this
                simpa [flatL] using this
              have hval : ∀ (w' : World), ∀ a0, c.L.enc t' v = [a0] → Rep c.L (fun _ => False) w' noE a0 vx ∧ vx.oneCell' = true := fun w' a0 ha0 => by
                rw [henc] at ha0; cases ha0
                exact ⟨hx.flat hflx, flat_one hx hflx⟩
              cases hk
              have hck := fun em => check_int hku n em w
              rcases g4.find n 0 with ⟨f1, _, _, f2, _⟩ | ⟨j, q, x0, f1, f2, f3, _, _, _, f4, _⟩
              · refine ⟨_, I, E, by simp [Instr.mapUpdate, run_underlying hu, MapKept.run_getObj_map g3, hck, MapKept.run_findKey hku f1, MapKept.run_setObj_map _ g3, Result.andThen]; rfl, ?_⟩
                refine post_write hr (by rw [hg]; simp) g1 g2 g3 _ (by simp) (fun _ => ⟨b, _, _, g2, (MapKept.heap_set g3).1, ?_⟩) .top
                rw [f2 v, Array.toList_push]
                exact (g4.snoc (p := (n, v)) ⟨rfl, hval _⟩).mono
              · have hj : arr[j]? = some q := by simpa using f2
                have hkt := MapKept.run_keyThatStays (P := c.P) (w := w) (isKey_int k2 n)
                refine ⟨_, I, E, by simp [Instr.mapUpdate, run_underlying hu, MapKept.run_getObj_map g3, hck, MapKept.run_findKey hku f1, hj, f3, hkt, MapKept.run_setObj_map _ g3, Result.andThen]; rfl, ?_⟩
                refine post_write hr (by rw [hg]; simp) g1 g2 g3 _ (by simp) (fun _ => ⟨b, _, _, g2, (MapKept.heap_set g3).1, ?_⟩) .top
                rw [f4 v, Array.toList_modify]
                exact (g4.set (p := (n, v)) (fun q' _ => ⟨rfl, hval _⟩)).mono
            · exact ho.elim
          · exact ho.elim
        · exact ho.elim
      · rename_i cs hg
        split at ho
        · rename_i hs
          simp only [Bool.and_eq_true] at hs
          obtain ⟨rfl, h2⟩ := newC_out ho
          obtain ⟨e, b, arr, clock, l, g1, g2, rfl, g3, g4, g5, g6⟩ := mapC_at hr hg ha
          obtain ⟨k1, k2⟩ := find_spec hs.1 hk
          have hmem : ∀ q ∈ arr.toList, ∃ ka b, shpK c kt ka = true ∧ Rep c.L I w E ka q.key ∧ eqKey key ka = some b := fun q hq => entL_mem g4 hs.2.1 hs.2.2 (g5.mem_iff.2 hq)
          rcases lookC_spec hk g4 (h2 true .nilp) with ⟨_, q2⟩ | ⟨q, x', _, _, _, q4⟩
          · rcases k2 hmem with ⟨k3, _⟩ | ⟨j, q', _, k4, k5⟩
            · refine ⟨_, I, E, by simp [Instr.mapUpdate, run_underlying hu, MapKept.run_getObj_map g3, k1, k3, MapKept.run_setObj_map _ g3, Result.andThen]; rfl, ?_⟩
              refine post_write hr (by rw [hg]; simp) g1 g2 g3 _ (by simp) (fun hI => ⟨b, _, _, l ++ [⟨vk, vx, clock⟩], g2, (MapKept.heap_set g3).1, ?_, ?_, ?_⟩) .top
              · rw [entL_snoc]
                exact (g4.append (Reps.cons hk (Reps.cons hx Reps.nil))).mono (fun _ h => h) hI (Env.le_refl _)
              · rw [Array.toList_push]; exact g5.append_right _
              · rw [List.map_append, List.nodup_append]
                refine ⟨g6, by simp, fun a ha b hb => ?_⟩
                simp at hb; subst hb
                obtain ⟨q, hq, rfl⟩ := List.mem_map.1 ha
                exact q2 q hq
            · exact absurd k5 (q2 q' (g5.mem_iff.2 (List.mem_of_getElem? k4)))
          · simp [packL] at q4
        · exact ho.elim
      · exact ho.elim
    · exact ho.elim
  · exact ho.elim
theorem aDelete_ok (hr : HR c.L I w E R) {base : Nat} {t kt0 ty : TypeId} {a key : AVal El} {y : Eff El} {va vk : Value} (ha : Rep c.L I w E a va) (hk : Rep c.L I w E key vk) (ho : (aDelete c R t a key).Out y) :
    ∃ u w' I' E', (Builtin.delete_ #[t, kt0] ty #[va, vk]).run c.P w = .ok u w' ∧ Post c.L I E R w base y.2 y.1 u w' I' E' := by
  unfold aDelete at ho
  split at ho
  · rename_i kt et hu
    split at ho
    · rename_i r
      split at ho
      · rename_i k t' m hg
        split at ho
        · rename_i k1 n k2 hku
          split at ho
          · rename_i hcond
            obtain ⟨rfl, rfl⟩ := hcond
            simp only [Tree.Out] at ho; subst ho
            obtain ⟨e, b, arr, clock, g1, g2, rfl, g3, g4⟩ := mapS_at hr hg ha
            cases hk
            have hck := fun em => check_int hku n em w
            have htup : ∀ w' : World, Rep c.L I w' E (.tup []) (.tuple #[]) := fun w' => .tup (vs := []) rfl (fun i c' v' hc => by simp at hc)
            rcases g4.find n 0 with ⟨f1, _, _, _, f2⟩ | ⟨j, q, x0, f1, f2, f3, _, _, _, _, f4⟩
            · refine ⟨_, _, I, E, by simp [Builtin.delete_, run_underlying hu, MapKept.run_getObj_map g3, hck, MapKept.run_findKey hku f1, MapKept.run_setObj_map _ g3, Result.andThen]; exact ⟨rfl, rfl⟩, ?_⟩
              refine post_write hr (by rw [hg]; simp) g1 g2 g3 _ (by simp) (fun _ => ⟨b, _, _, g2, (MapKept.heap_set g3).1, ?_⟩) (htup _)
              rw [f2]; exact g4.mono
            · refine ⟨_, _, I, E, by simp [Builtin.delete_, run_underlying hu, MapKept.run_getObj_map g3, hck, MapKept.run_findKey hku f1, MapKept.run_setObj_map _ g3, Result.andThen]; exact ⟨rfl, rfl⟩, ?_⟩
              refine post_write hr (by rw [hg]; simp) g1 g2 g3 _ (by simp) (fun _ => ⟨b, _, _, g2, (MapKept.heap_set g3).1, ?_⟩) (htup _)
              have hjl : j < arr.size := by
                have := (List.getElem?_eq_some_iff.1 f2).1; simpa using this
              have e1 : (arr.eraseIdxIfInBounds j).toList = arr.toList.eraseIdx j := by
                unfold Array.eraseIdxIfInBounds; rw [dif_pos hjl]; simp
              rw [f4]
              first | rw [e1] | rw [Nat.zero_add, e1]
              exact (g4.erase j).mono
          · exact ho.elim
        · exact ho.elim
      · exact ho.elim
    · exact ho.elim
  · exact ho.elim
theorem aMakeMap_ok (hr : HR c.L I w E R) {base : Nat} {t : TypeId} {y : Eff El} (hb : E base = none) (ho : (aMakeMap c base t).Out y) :
    ∃ u w' I' E', (Instr.makeMap t none).run c.P w = .ok u w' ∧ Post c.L I E R w base y.2 y.1 u w' I' E' := by
  have hrun : (Instr.makeMap t none).run c.P w = .ok (.map (some w.heap.size)) (w.alloc (.map #[] 0)) := by simp [Instr.makeMap, Result.andThen]
  have hat := (MapKept.heap_alloc w (.map #[] 0)).1
  have core : ∀ x : Res El, (∀ E' : Env, HRes c.L I (w.alloc (.map #[] 0)) E' ⟨some w.heap.size, .map (some w.heap.size)⟩ x) → Post c.L I E R w base [(base, x)] (.mapr base) (.map (some w.heap.size)) (w.alloc (.map #[] 0)) I (E.put base ⟨some w.heap.size, .map (some w.heap.size)⟩) := fun x hx => by
    obtain ⟨h1, h2⟩ := hr.add hb ⟨some w.heap.size, .map (some w.heap.size)⟩ x (Fr.alloc w _) (hx _) (fun b hb => by cases hb; exact Nat.le_refl _)
    refine ⟨h2, h1, .mapr (Env.put_same _ _ _), fun r hn => ?_⟩
    by_cases hr' : r = base
    · subst hr'; have := hn x (List.mem_singleton.2 rfl); omega
    · exact Env.put_ne E _ hr'
  unfold aMakeMap at ho
  split at ho
  · split at ho
    · simp only [Tree.Out] at ho; subst ho
      exact ⟨_, _, I, _, hrun, core _ (fun E' => ⟨_, #[], 0, rfl, hat, trivial⟩)⟩
    · simp only [Tree.Out] at ho; subst ho
      exact ⟨_, _, I, _, hrun, core _ (fun E' => ⟨_, #[], 0, [], rfl, hat, Reps.nil, List.Perm.refl _, List.nodup_nil⟩)⟩
  · exact ho.elim
theorem aLenM_ok (h : HR c.L I w E R) {t ty : TypeId} {x r : AVal El} {v : Value} (hx : Rep c.L I w E x v) (ho : (aLenM c R t x).Out r) :
    ∃ u, (Builtin.len_ #[t] ty #[v]).run c.P w = .ok u w ∧ Rep c.L I w E r u := by
  unfold aLenM at ho
  split at ho
  · split at ho
    · rename_i kt et k t' m hu hg
      simp only [Tree.Out] at ho; subst ho
      obtain ⟨e, b, arr, clock, g1, g2, rfl, g3, g4⟩ := mapS_at h hg hx
      have := g4.len
      have e1 : arr.size = m.length := by simpa using this
      exact ⟨_, by simp [Builtin.len_, run_underlying hu, MapKept.run_getObj_map g3, Result.andThen]; rfl, by rw [e1]; exact .int⟩
    · exact ho.elim
  · exact aLen_ok h hx ho
end proofs
end Go.Ax
