/- A verified symbolic executor for Go functions over the model, part 1: abstract values, what they stand for in a world, abstract resources. No program in sight; no condition. -/
import Derived.Orders
import Derived.Laws.CopyRow
import Derived.Laws.AppendOwn
import Derived.Laws.MakeOwn
import Derived.Laws.StructEq
import Derived.Laws.Tables
import Derived.KernelRfl
namespace Go.Ax

/-- An abstract value. 'r' is the number of a resource (a block of memory that the run owns); 't' an element's type. -/
inductive AVal (El : TypeId → Type) : Type
  | top
  | bool (b : Bool)
  | int (k : IntKind) (n : Int)
  | str (s : ByteArray)
  | nilp
  | nilf
  | nilm
  | nils
  | anyb
  | ptr (r off : Nat)
  | eptr (r : Nat) (sz i off : Nat)
  | lptr (t : TypeId) (xs : List (El t)) (sz i off : Nat)
  | cs (r off n : Nat)
  | fn (f : FuncId) (caps : List (AVal El))
  | list (t : TypeId) (xs : List (El t))
  | vec (r : Nat)
  | mapr (r : Nat)
  | agg (cells : List (AVal El))
  | tup (vs : List (AVal El))

variable {El : TypeId → Type}

/-- Place 'n' of a list of abstract values; nothing is known outside. -/
def nth : List (AVal El) → Nat → AVal El
  | [], _ => .top
  | a :: _, 0 => a
  | _ :: l, n + 1 => nth l n

theorem nth_eq (l : List (AVal El)) (n : Nat) : nth l n = l.getD n .top := by
  induction l generalizing n with
  | nil => simp [nth]
  | cons a l ih => cases n with
    | zero => simp [nth]
    | succ n => simp [nth, ih]

/-- How elements of slices are laid out: cells an element, the cells of an element, back from cells. -/
structure Lay (El : TypeId → Type) where
  sz : TypeId → Nat
  enc : (t : TypeId) → El t → List (AVal El)
  dec : (t : TypeId) → List (AVal El) → Option (El t)
  dflt : (t : TypeId) → El t
  enc_len : ∀ t x, (enc t x).length = sz t
  dec_enc : ∀ t cs x, dec t cs = some x → enc t x = cs

structure REnv where
  blk : Option Nat
  raw : Value

abbrev Env := Nat → Option REnv
def noE : Env := fun _ => none

section rep
variable (L : Lay El) (I : Nat → Prop) (w : World)

/-- What a model value is for an abstract value. 'I': the blocks that never change any more. -/
inductive Rep : Env → AVal El → Value → Prop
  | top {E v} : Rep E .top v
  | bool {E b} : Rep E (.bool b) (.bool b)
  | int {E k n} : Rep E (.int k n) (.int k n)
  | str {E s} : Rep E (.str s) (.string s)
  | nilp {E} : Rep E .nilp (.pointer none)
  | nilf {E} : Rep E .nilf .nilFunc
  | nilm {E} : Rep E .nilm (.map none)
  | nils {E} : Rep E .nils (.slice none 0 0)
  | anyb {E b} : Rep E .anyb (.bool b)
  | ptr {E : Env} {r off b v} (h : E r = some ⟨some b, v⟩) : Rep E (.ptr r off) (.pointer (some ⟨b, off, none⟩))
  | eptr {E : Env} {r sz i off b v} (h : E r = some ⟨some b, v⟩) : Rep E (.eptr r sz i off) (.pointer (some ⟨b, i * sz + off, none⟩))
  | lptr {E : Env} {t : TypeId} {xs : List (El t)} {i off b o : Nat} (hi : i < xs.length) {cells : Array Value} {ty : TypeId} {fz : Nat × Nat} (hI : I b) (hb : w.heap[b]? = some (.cells cells ty fz)) (vals : Nat → Nat → Value)
      (hcells : ∀ (i j : Nat), i < xs.length → j < L.sz t → cells[o + i * L.sz t + j]? = some (vals i j) ∧ (vals i j).oneCell' = true)
      (hrep : ∀ (i : Nat) (x : El t), xs[i]? = some x → ∀ (j : Nat) (c : AVal El), (L.enc t x)[j]? = some c → Rep noE c (vals i j)) :
      Rep E (.lptr t xs (L.sz t) i off) (.pointer (some ⟨b, o + i * L.sz t + off, none⟩))
  | cs {E : Env} {r off n b v} (h : E r = some ⟨some b, v⟩) : Rep E (.cs r off n) (.slice (some ⟨b, off, none⟩) n n)
  | fn {E : Env} {f} {caps : List (AVal El)} {vs : List Value} (hl : caps.length = vs.length) (h : ∀ (i : Nat) (c : AVal El) (v : Value), caps[i]? = some c → vs[i]? = some v → Rep E c v) :
      Rep E (.fn f caps) (.func (.func f) #[] vs.toArray)
  | listNil {E : Env} {t} {a cap} : Rep E (.list t []) (.slice a 0 cap)
  | list {E : Env} {t : TypeId} {xs : List (El t)} {b o len cap : Nat} {cells : Array Value} {ty : TypeId} {fz : Nat × Nat} (hI : I b) (hb : w.heap[b]? = some (.cells cells ty fz)) (hlen : len = xs.length) (hcap : len ≤ cap)
      (vals : Nat → Nat → Value)
      (hcells : ∀ (i j : Nat), i < xs.length → j < L.sz t → cells[o + i * L.sz t + j]? = some (vals i j) ∧ (vals i j).oneCell' = true)
      (hrep : ∀ (i : Nat) (x : El t), xs[i]? = some x → ∀ (j : Nat) (c : AVal El), (L.enc t x)[j]? = some c → Rep noE c (vals i j)) :
      Rep E (.list t xs) (.slice (some ⟨b, o, none⟩) len cap)
  | vec {E : Env} {r e} (h : E r = some e) (h1 : e.raw.oneCell' = true) : Rep E (.vec r) e.raw
  | mapr {E : Env} {r b v} (h : E r = some ⟨some b, v⟩) : Rep E (.mapr r) (.map (some b))
  | agg {E : Env} {cs : List (AVal El)} {vs : List Value} (hl : cs.length = vs.length) (h : ∀ (i : Nat) (c : AVal El) (v : Value), cs[i]? = some c → vs[i]? = some v → Rep E c v)
      (h1 : ∀ v ∈ vs, v.oneCell' = true) : Rep E (.agg cs) (.agg vs.toArray)
  | tup {E : Env} {cs : List (AVal El)} {vs : List Value} (hl : cs.length = vs.length) (h : ∀ (i : Nat) (c : AVal El) (v : Value), cs[i]? = some c → vs[i]? = some v → Rep E c v) :
      Rep E (.tup cs) (.tuple vs.toArray)

/-- Lists of abstract values, place by place. -/
structure Reps (E : Env) (cs : List (AVal El)) (vs : List Value) : Prop where
  len : cs.length = vs.length
  at_ : ∀ (i : Nat) (c : AVal El) (v : Value), cs[i]? = some c → vs[i]? = some v → Rep L I w E c v
end rep

def Env.le (E E' : Env) : Prop := ∀ r e, E r = some e → E' r = some e
theorem Env.le_refl (E : Env) : E.le E := fun _ _ h => h
theorem Env.le_trans {E E' E'' : Env} (h : E.le E') (h' : E'.le E'') : E.le E'' := fun r e he => h' r e (h r e he)

section mono
variable {L : Lay El} {I I' : Nat → Prop} {w w' : World}

theorem Rep.mono {E E' : Env} {a : AVal El} {v : Value} (h : Rep L I w E a v) (hI : ∀ b, I b → I' b) (hw : ∀ b, I b → w'.heap[b]? = w.heap[b]?) (hE : E.le E') :
    Rep L I' w' E' a v := by
  induction h generalizing E' with
  | top => exact .top
  | bool => exact .bool
  | int => exact .int
  | str => exact .str
  | nilp => exact .nilp
  | nilf => exact .nilf
  | nilm => exact .nilm
  | nils => exact .nils
  | anyb => exact .anyb
  | ptr h => exact .ptr (hE _ _ h)
  | eptr h => exact .eptr (hE _ _ h)
  | lptr hi hb hh vals hc hr ih => exact .lptr hi (hI _ hb) ((hw _ hb).trans hh) vals hc (fun i x hx j c hj => ih i x hx j c hj (Env.le_refl _))
  | cs h => exact .cs (hE _ _ h)
  | fn hl h ih => exact .fn hl (fun i c v hc hv => ih i c v hc hv hE)
  | listNil => exact .listNil
  | list hb hh h1 h2 vals hc hr ih => exact .list (hI _ hb) ((hw _ hb).trans hh) h1 h2 vals hc (fun i x hx j c hj => ih i x hx j c hj (Env.le_refl _))
  | vec h h1 => exact .vec (hE _ _ h) h1
  | mapr h => exact .mapr (hE _ _ h)
  | agg hl h h1 ih => exact .agg hl (fun i c v hc hv => ih i c v hc hv hE) h1
  | tup hl h ih => exact .tup hl (fun i c v hc hv => ih i c v hc hv hE)

theorem Reps.mono {E E' : Env} {cs : List (AVal El)} {vs : List Value} (h : Reps L I w E cs vs) (hI : ∀ b, I b → I' b) (hw : ∀ b, I b → w'.heap[b]? = w.heap[b]?) (hE : E.le E') :
    Reps L I' w' E' cs vs := ⟨h.len, fun i c v hc hv => (h.at_ i c v hc hv).mono hI hw hE⟩
end mono

section reps
variable {L : Lay El} {I : Nat → Prop} {w : World} {E : Env}
theorem Reps.nil : Reps L I w E [] [] := ⟨rfl, fun i c v hc _ => by simp at hc⟩
theorem Reps.cons {c : AVal El} {v : Value} {cs vs} (h : Rep L I w E c v) (hs : Reps L I w E cs vs) : Reps L I w E (c :: cs) (v :: vs) := by
  refine ⟨by simp [hs.len], fun i c' v' hc hv => ?_⟩
  cases i with
  | zero => simp at hc hv; subst hc; subst hv; exact h
  | succ i => simp at hc hv; exact hs.at_ i c' v' hc hv
theorem Reps.inv_cons {c : AVal El} {cs vs} (h : Reps L I w E (c :: cs) vs) : ∃ v vs', vs = v :: vs' ∧ Rep L I w E c v ∧ Reps L I w E cs vs' := by
  cases vs with
  | nil => have := h.len; simp at this
  | cons v vs =>
    exact ⟨v, vs, rfl, h.at_ 0 c v rfl rfl, by have := h.len; simpa using this, fun i c' v' hc hv => h.at_ (i + 1) c' v' (by simpa using hc) (by simpa using hv)⟩
theorem Reps.inv_nil {vs} (h : Reps L I w E ([] : List (AVal El)) vs) : vs = [] := by
  cases vs with
  | nil => rfl
  | cons v vs => have := h.len; simp at this
theorem Reps.append {cs ds : List (AVal El)} {vs us} (h : Reps L I w E cs vs) (h' : Reps L I w E ds us) : Reps L I w E (cs ++ ds) (vs ++ us) := by
  refine ⟨by simp [h.len, h'.len], fun i c v hc hv => ?_⟩
  by_cases hi : i < cs.length
  · rw [List.getElem?_append_left hi] at hc
    rw [List.getElem?_append_left (by rw [← h.len]; exact hi)] at hv
    exact h.at_ i c v hc hv
  · rw [List.getElem?_append_right (by omega)] at hc
    rw [List.getElem?_append_right (by rw [← h.len]; omega)] at hv
    rw [← h.len] at hv
    exact h'.at_ _ c v hc hv
theorem Reps.getD {cs : List (AVal El)} {vs} (h : Reps L I w E cs vs) (i : Nat) (d : Value) : Rep L I w E (nth cs i) (vs.getD i d) := by
  rw [nth_eq]
  by_cases hi : i < cs.length
  · have hi' : i < vs.length := by rw [← h.len]; exact hi
    rw [List.getD_eq_getElem?_getD, List.getD_eq_getElem?_getD, List.getElem?_eq_getElem hi, List.getElem?_eq_getElem hi']
    exact h.at_ i _ _ (List.getElem?_eq_getElem hi) (List.getElem?_eq_getElem hi')
  · rw [List.getD_eq_getElem?_getD, List.getElem?_eq_none (by omega)]
    exact .top
theorem Reps.drop {cs : List (AVal El)} {vs} (h : Reps L I w E cs vs) (n : Nat) : Reps L I w E (cs.drop n) (vs.drop n) :=
  ⟨by simp [h.len], fun i c v hc hv => h.at_ (n + i) c v (by simpa using hc) (by simpa using hv)⟩
theorem Reps.take {cs : List (AVal El)} {vs} (h : Reps L I w E cs vs) (n : Nat) : Reps L I w E (cs.take n) (vs.take n) := by
  refine ⟨by simp [h.len], fun i c v hc hv => ?_⟩
  rw [List.getElem?_take] at hc hv
  split at hc
  · rename_i hlt
    rw [if_pos hlt] at hv
    exact h.at_ i c v hc hv
  · simp at hc
theorem Reps.set {cs : List (AVal El)} {vs} (h : Reps L I w E cs vs) (n : Nat) {c : AVal El} {v : Value} (hr : Rep L I w E c v) : Reps L I w E (cs.set n c) (vs.set n v) := by
  refine ⟨by simp [h.len], fun i c' v' hc hv => ?_⟩
  rw [List.getElem?_set] at hc hv
  split at hc
  · rename_i e
    subst e
    rw [if_pos rfl] at hv
    split at hc
    · split at hv
      · simp at hc hv; subst hc; subst hv; exact hr
      · simp at hv
    · simp at hc
  · rename_i e
    rw [if_neg e] at hv
    exact h.at_ i c' v' hc hv
end reps

/-- A resource: a block of memory that the run owns. -/
inductive Res (El : TypeId → Type) : Type
  | dead
  | cells (t : TypeId) (cs : List (AVal El))
  | vec (t : TypeId) (xs : List (El t))
  | mapS (k : IntKind) (t : TypeId) (m : List (Int × El t))
  | mapC (cs : List (AVal El))

def getR : List (Res El) → Nat → Res El
  | [], _ => .dead
  | a :: _, 0 => a
  | _ :: l, n + 1 => getR l n

/-- Set place 'n', with dead places before it where the list is too short. -/
def setR : List (Res El) → Nat → Res El → List (Res El)
  | [], 0, x => [x]
  | [], n + 1, x => .dead :: setR [] n x
  | _ :: l, 0, x => x :: l
  | a :: l, n + 1, x => a :: setR l n x

theorem getR_setR (l : List (Res El)) (n m : Nat) (x : Res El) : getR (setR l n x) m = if m = n then x else getR l m := by
  induction l generalizing n m with
  | nil =>
    induction n generalizing m with
    | zero => cases m <;> simp [setR, getR]
    | succ n ih => cases m with
      | zero => simp [setR, getR]
      | succ m => simp [setR, getR, ih]
  | cons a l ih => cases n with
    | zero => cases m <;> simp [setR, getR]
    | succ n => cases m with
      | zero => simp [setR, getR]
      | succ m => simp [setR, getR, ih]

def updR (R : List (Res El)) : List (Nat × Res El) → List (Res El)
  | [] => R
  | (n, x) :: us => updR (setR R n x) us

/-- Keys and values of a map's entries, in turn. -/
def entL : List MapEntry → List Value
  | [] => []
  | q :: l => q.key :: q.val :: entL l
/-- A map of plain numbers, entry by entry. -/
def EntS (L : Lay El) (w : World) (k : IntKind) (t : TypeId) : List MapEntry → List (Int × El t) → Prop
  | [], [] => True
  | q :: l, p :: m => (q.key = .int k p.1 ∧ ∀ a, L.enc t p.2 = [a] → Rep L (fun _ => False) w noE a q.val ∧ q.val.oneCell' = true) ∧ EntS L w k t l m
  | _, _ => False
theorem EntS.mono {L : Lay El} {w w' : World} {k : IntKind} {t : TypeId} {l : List MapEntry} {m : List (Int × El t)} (h : EntS L w k t l m) : EntS L w' k t l m := by
  induction l generalizing m with
  | nil => cases m with
    | nil => trivial
    | cons p m => exact h.elim
  | cons q l ih => cases m with
    | nil => exact h.elim
    | cons p m => exact ⟨⟨h.1.1, fun a ha => ⟨(h.1.2 a ha).1.mono (fun _ h => h) (fun _ h => h.elim) (Env.le_refl _), (h.1.2 a ha).2⟩⟩, ih h.2⟩
section holds
variable (L : Lay El) (I : Nat → Prop) (w : World)

/-- What a resource is in memory. -/
def HRes (E : Env) (e : REnv) : Res El → Prop
  | .dead => True
  | .cells t cs => ∃ b vs, e.blk = some b ∧ w.heap[b]? = some (.cells vs.toArray t (0, 0)) ∧ Reps L I w E cs vs ∧ (∀ v ∈ vs, v.oneCell' = true)
  | .vec t xs => (e.blk = none ∧ xs = [] ∧ ∃ a, e.raw = .slice a 0 0) ∨
      ∃ b cap, ∃ cells : Array Value, ∃ vals : Nat → Nat → Value, e.blk = some b ∧ e.raw = .slice (some ⟨b, 0, none⟩) xs.length cap ∧ xs.length ≤ cap ∧
        w.heap[b]? = some (.cells cells t (0, 0)) ∧ cells.size = cap * L.sz t ∧
        (∀ i j, i < xs.length → j < L.sz t → cells[i * L.sz t + j]? = some (vals i j) ∧ (vals i j).oneCell' = true) ∧
        (∀ i x, xs[i]? = some x → ∀ j c, (L.enc t x)[j]? = some c → Rep L (fun _ => False) w noE c (vals i j))

  | .mapS k t m => ∃ b arr clock, e.blk = some b ∧ w.heap[b]? = some (.map arr clock) ∧ EntS L w k t arr.toList m
  | .mapC cs => ∃ b arr clock l, e.blk = some b ∧ w.heap[b]? = some (.map arr clock) ∧ Reps L I w E cs (entL l) ∧ List.Perm l arr.toList ∧ (l.map (·.key)).Nodup

/-- Block 'b' is owned. -/
def Own (E : Env) (R : List (Res El)) (b : Nat) : Prop := ∃ r e, getR R r ≠ .dead ∧ E r = some e ∧ e.blk = some b

structure HR (E : Env) (R : List (Res El)) : Prop where
  res : ∀ r, getR R r ≠ .dead → ∃ e, E r = some e ∧ HRes L I w E e (getR R r)
  apart : ∀ r r' e e' b, getR R r ≠ .dead → getR R r' ≠ .dead → E r = some e → E r' = some e' → e.blk = some b → e'.blk = some b → r = r'
  notI : ∀ b, Own E R b → ¬ I b
  old : ∀ b, I b → b < w.heap.size
end holds

/-- From one world to a later one: blocks below the old size that are not in 'S' are as they were. -/
structure Fr (S : Nat → Prop) (w w' : World) : Prop where
  os : w'.os = w.os
  tape : w'.tape = w.tape
  output : w'.output = w.output
  size : w.heap.size ≤ w'.heap.size
  block : ∀ b, b < w.heap.size → ¬ S b → w'.heap[b]? = w.heap[b]?

theorem Fr.refl (S : Nat → Prop) (w : World) : Fr S w w := ⟨rfl, rfl, rfl, Nat.le_refl _, fun _ _ _ => rfl⟩
theorem Fr.weaken {S S' : Nat → Prop} {w w' : World} (h : Fr S w w') (hs : ∀ b, S b → S' b) : Fr S' w w' :=
  ⟨h.os, h.tape, h.output, h.size, fun b hb hn => h.block b hb (fun hb' => hn (hs b hb'))⟩
theorem Fr.trans {S S' : Nat → Prop} {w w1 w2 : World} (h : Fr S w w1) (h' : Fr S' w1 w2) (hs : ∀ b, S' b → S b ∨ w.heap.size ≤ b) : Fr S w w2 :=
  ⟨h'.os.trans h.os, h'.tape.trans h.tape, h'.output.trans h.output, Nat.le_trans h.size h'.size, fun b hb hn =>
    (h'.block b (Nat.lt_of_lt_of_le hb h.size) (fun hb' => (hs b hb').elim hn (fun hle => Nat.not_lt.2 hle hb))).trans (h.block b hb hn)⟩

/-- One step of the abstract state, and what it leaves alone. -/
structure Ext (I : Nat → Prop) (E : Env) (R : List (Res El)) (w : World) (I' : Nat → Prop) (E' : Env) (R' : List (Res El)) (w' : World) : Prop where
  imm : ∀ b, I b → I' b
  env : E.le E'
  fr : Fr (Own E R) w w'
  immOld : ∀ b, I' b → I b ∨ Own E R b ∨ w.heap.size ≤ b
  ownOld : ∀ b, Own E' R' b → Own E R b ∨ w.heap.size ≤ b

theorem Ext.refl {I : Nat → Prop} {E : Env} {R : List (Res El)} {w : World} : Ext I E R w I E R w :=
  ⟨fun _ h => h, Env.le_refl _, Fr.refl _ _, fun _ h => .inl h, fun _ h => .inl h⟩

theorem Ext.trans {I I1 I2 : Nat → Prop} {E E1 E2 : Env} {R R1 R2 : List (Res El)} {w w1 w2 : World} (h : Ext I E R w I1 E1 R1 w1) (h' : Ext I1 E1 R1 w1 I2 E2 R2 w2) :
    Ext I E R w I2 E2 R2 w2 where
  imm b hb := h'.imm b (h.imm b hb)
  env := Env.le_trans h.env h'.env
  fr := h.fr.trans h'.fr h.ownOld
  immOld b hb := by
    rcases h'.immOld b hb with h1 | h1 | h1
    · exact h.immOld b h1
    · exact .inr (h.ownOld b h1)
    · exact .inr (.inr (Nat.le_trans h.fr.size h1))
  ownOld b hb := by
    rcases h'.ownOld b hb with h1 | h1
    · exact h.ownOld b h1
    · exact .inr (Nat.le_trans h.fr.size h1)

section keep
variable {L : Lay El} {I I' : Nat → Prop} {E E' : Env} {R R' : List (Res El)} {w w' : World}

theorem HR.immSame (h : HR L I w E R) (hx : Ext I E R w I' E' R' w') : ∀ b, I b → w'.heap[b]? = w.heap[b]? :=
  fun b hb => hx.fr.block b (h.old b hb) (fun ho => h.notI b ho hb)

theorem HR.keepRep (h : HR L I w E R) (hx : Ext I E R w I' E' R' w') {a : AVal El} {v : Value} (hr : Rep L I w E a v) : Rep L I' w' E' a v :=
  hr.mono hx.imm (h.immSame hx) hx.env

theorem HR.keepReps (h : HR L I w E R) (hx : Ext I E R w I' E' R' w') {a : List (AVal El)} {v : List Value} (hr : Reps L I w E a v) : Reps L I' w' E' a v :=
  hr.mono hx.imm (h.immSame hx) hx.env

/-- A resource whose block is as it was stands as it stood. -/
theorem HRes.keep {e : REnv} {res : Res El} (h : HRes L I w E e res) (hI : ∀ b, I b → I' b) (hw : ∀ b, I b → w'.heap[b]? = w.heap[b]?) (hE : E.le E')
    (hb : ∀ b, e.blk = some b → b < w.heap.size → w'.heap[b]? = w.heap[b]?) : HRes L I' w' E' e res := by
  cases res with
  | dead => trivial
  | cells t cs =>
    obtain ⟨b, vs, h1, h2, h3, h4⟩ := h
    have hlt : b < w.heap.size := by
      rcases Nat.lt_or_ge b w.heap.size with h' | h'
      · exact h'
      · rw [Array.getElem?_eq_none h'] at h2; cases h2
    exact ⟨b, vs, h1, (hb b h1 hlt).trans h2, h3.mono hI hw hE, h4⟩
  | vec t xs =>
    rcases h with h | ⟨b, cap, cells, vals, h1, h2, h3, h4, h5, h6, h7⟩
    · exact .inl h
    · have hlt : b < w.heap.size := by
        rcases Nat.lt_or_ge b w.heap.size with h' | h'
        · exact h'
        · rw [Array.getElem?_eq_none h'] at h4; cases h4
      exact .inr ⟨b, cap, cells, vals, h1, h2, h3, (hb b h1 hlt).trans h4, h5, h6, fun i x hx j c hj =>
        (h7 i x hx j c hj).mono (fun _ h => h) (fun _ h => h.elim) (Env.le_refl _)⟩
  | mapS k t m =>
    obtain ⟨b, arr, clock, h1, h2, h3⟩ := h
    have hlt : b < w.heap.size := by
      rcases Nat.lt_or_ge b w.heap.size with h' | h'
      · exact h'
      · rw [Array.getElem?_eq_none h'] at h2; cases h2
    exact ⟨b, arr, clock, h1, (hb b h1 hlt).trans h2, h3.mono⟩
  | mapC cs =>
    obtain ⟨b, arr, clock, l, h1, h2, h3, h4⟩ := h
    have hlt : b < w.heap.size := by
      rcases Nat.lt_or_ge b w.heap.size with h' | h'
      · exact h'
      · rw [Array.getElem?_eq_none h'] at h2; cases h2
    exact ⟨b, arr, clock, l, h1, (hb b h1 hlt).trans h2, h3.mono hI hw hE, h4⟩

theorem HRes.blk_lt {e : REnv} {res : Res El} (h : HRes L I w E e res) (hd : res ≠ .dead) {b : Nat} (hb : e.blk = some b) : b < w.heap.size := by
  have key : ∀ o, w.heap[b]? = some o → b < w.heap.size := fun o ho => by
    rcases Nat.lt_or_ge b w.heap.size with h' | h'
    · exact h'
    · rw [Array.getElem?_eq_none h'] at ho; cases ho
  cases res with
  | dead => exact absurd rfl hd
  | cells t cs =>
    obtain ⟨b', vs, h1, h2, _⟩ := h
    rw [hb] at h1; cases h1; exact key _ h2
  | vec t xs =>
    rcases h with ⟨h1, _⟩ | ⟨b', cap, cells, vals, h1, h2, h3, h4, _⟩
    · rw [hb] at h1; cases h1
    · rw [hb] at h1; cases h1; exact key _ h4
  | mapS k t m =>
    obtain ⟨b', arr, clock, h1, h2, _⟩ := h
    rw [hb] at h1; cases h1; exact key _ h2
  | mapC cs =>
    obtain ⟨b', arr, clock, l, h1, h2, _⟩ := h
    rw [hb] at h1; cases h1; exact key _ h2

theorem HR.own_lt (h : HR L I w E R) {b : Nat} (hb : Own E R b) : b < w.heap.size := by
  obtain ⟨r, e, h1, h2, h3⟩ := hb
  obtain ⟨e', h4, h5⟩ := h.res r h1
  rw [h2] at h4; cases h4
  exact h5.blk_lt h1 h3

/-- The world has grown by blocks that are nobody's: all stands. -/
theorem HR.grow (h : HR L I w E R) (hf : Fr (fun _ => False) w w') : HR L I w' E R where
  res r hr := by
    obtain ⟨e, h1, h2⟩ := h.res r hr
    exact ⟨e, h1, h2.keep (fun _ h => h) (fun b hb => hf.block b (h.old b hb) id) (Env.le_refl _) (fun b _ hlt => hf.block b hlt id)⟩
  apart := h.apart
  notI := h.notI
  old b hb := Nat.lt_of_lt_of_le (h.old b hb) hf.size

theorem Ext.grow (hf : Fr (fun _ => False) w w') : Ext I E R w I E R w' :=
  ⟨fun _ h => h, Env.le_refl _, hf.weaken (fun _ h => h.elim), fun _ h => .inl h, fun _ h => .inl h⟩
end keep
end Go.Ax
