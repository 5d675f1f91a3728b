/- Parts of the proof, in one file: the executor and plain facts. No condition. -/
import Derived.Orders
import Derived.Laws.CopyRow
import Derived.Laws.AppendOwn
import Derived.Laws.MakeOwn
import Derived.Laws.StructEq
import Derived.Laws.Tables
import Derived.KernelRfl
import Derived.Laws.Cover3
import Derived.IntWalk
import Derived.MapKept
import Derived.WideKeyRuns

/- A verified symbolic executor for Go functions over the model, part 1: abstract values, what they stand for in a world, abstract resources. No program in sight; no condition. -/
section
namespace Go.Ax

/-- An abstract value. 'r' is the number of a resource (a block of memory that the run owns); 't' an element's type. -/
inductive AVal (El : TypeId → Type) : Type
  | top
  | bool (b : Bool)
  | int (k : IntKind) (n : Int)
  | str (s : ByteArray)
  | nilp
  | nilf
  | nilm
  | nils
  | anyb
  | ptr (r off : Nat)
  | eptr (r : Nat) (sz i off : Nat)
  | lptr (t : TypeId) (xs : List (El t)) (sz i off : Nat)
  | cs (r off n : Nat)
  | fn (f : FuncId) (caps : List (AVal El))
  | list (t : TypeId) (xs : List (El t))
  | vec (r : Nat)
  | mapr (r : Nat)
  | agg (cells : List (AVal El))
  | tup (vs : List (AVal El))

variable {El : TypeId → Type}

/-- Place 'n' of a list of abstract values; nothing is known outside. -/
def nth : List (AVal El) → Nat → AVal El
  | [], _ => .top
  | a :: _, 0 => a
  | _ :: l, n + 1 => nth l n

theorem nth_eq (l : List (AVal El)) (n : Nat) : nth l n = l.getD n .top := by
  induction l generalizing n with
  | nil => simp [nth]
  | cons a l ih => cases n with
    | zero => simp [nth]
    | succ n => simp [nth, ih]

/-- How elements of slices are laid out: cells an element, the cells of an element, back from cells. -/
structure Lay (El : TypeId → Type) where
  sz : TypeId → Nat
  enc : (t : TypeId) → El t → List (AVal El)
  dec : (t : TypeId) → List (AVal El) → Option (El t)
  dflt : (t : TypeId) → El t
  enc_len : ∀ t x, (enc t x).length = sz t
  dec_enc : ∀ t cs x, dec t cs = some x → enc t x = cs

structure REnv where
  blk : Option Nat
  raw : Value

abbrev Env := Nat → Option REnv
def noE : Env := fun _ => none

/-- Whether a function's captured values begin with the values that it was bound to. -/
def headTup : List (AVal El) → Bool
  | .tup _ :: _ => true
  | _ => false
section rep
variable (L : Lay El) (I : Nat → Prop) (w : World)

/-- What a model value is for an abstract value. 'I': the blocks that never change any more. -/
inductive Rep : Env → AVal El → Value → Prop
  | top {E v} : Rep E .top v
  | bool {E b} : Rep E (.bool b) (.bool b)
  | int {E k n} : Rep E (.int k n) (.int k n)
  | str {E s} : Rep E (.str s) (.string s)
  | nilp {E} : Rep E .nilp (.pointer none)
  | nilf {E} : Rep E .nilf .nilFunc
  | nilm {E} : Rep E .nilm (.map none)
  | nils {E} : Rep E .nils (.slice none 0 0)
  | anyb {E b} : Rep E .anyb (.bool b)
  | ptr {E : Env} {r off b v} (h : E r = some ⟨some b, v⟩) : Rep E (.ptr r off) (.pointer (some ⟨b, off, none⟩))
  | eptr {E : Env} {r sz i off b v} (h : E r = some ⟨some b, v⟩) : Rep E (.eptr r sz i off) (.pointer (some ⟨b, i * sz + off, none⟩))
  | lptr {E : Env} {t : TypeId} {xs : List (El t)} {i off b o : Nat} (hi : i < xs.length) {cells : Array Value} {ty : TypeId} {fz : Nat × Nat} (hI : I b) (hb : w.heap[b]? = some (.cells cells ty fz)) (vals : Nat → Nat → Value)
      (hcells : ∀ (i j : Nat), i < xs.length → j < L.sz t → cells[o + i * L.sz t + j]? = some (vals i j) ∧ (vals i j).oneCell' = true)
      (hrep : ∀ (i : Nat) (x : El t), xs[i]? = some x → ∀ (j : Nat) (c : AVal El), (L.enc t x)[j]? = some c → Rep noE c (vals i j)) :
      Rep E (.lptr t xs (L.sz t) i off) (.pointer (some ⟨b, o + i * L.sz t + off, none⟩))
  | cs {E : Env} {r off n b v} (h : E r = some ⟨some b, v⟩) : Rep E (.cs r off n) (.slice (some ⟨b, off, none⟩) n n)
  | fn {E : Env} {f} {caps : List (AVal El)} {vs : List Value} (ht : headTup caps = false) (hl : caps.length = vs.length) (h : ∀ (i : Nat) (c : AVal El) (v : Value), caps[i]? = some c → vs[i]? = some v → Rep E c v) :
      Rep E (.fn f caps) (.func (.func f) #[] vs.toArray)
  | bfn {E : Env} {f} {fs caps : List (AVal El)} {us vs : List Value} (hl : fs.length = us.length) (h : ∀ (i : Nat) (c : AVal El) (v : Value), fs[i]? = some c → us[i]? = some v → Rep E c v)
      (hl' : caps.length = vs.length) (h' : ∀ (i : Nat) (c : AVal El) (v : Value), caps[i]? = some c → vs[i]? = some v → Rep E c v) :
      Rep E (.fn f (.tup fs :: caps)) (.func (.func f) us.toArray vs.toArray)
  | listNil {E : Env} {t} {a cap} : Rep E (.list t []) (.slice a 0 cap)
  | list {E : Env} {t : TypeId} {xs : List (El t)} {b o len cap : Nat} {cells : Array Value} {ty : TypeId} {fz : Nat × Nat} (hI : I b) (hb : w.heap[b]? = some (.cells cells ty fz)) (hlen : len = xs.length) (hcap : len ≤ cap)
      (vals : Nat → Nat → Value)
      (hcells : ∀ (i j : Nat), i < xs.length → j < L.sz t → cells[o + i * L.sz t + j]? = some (vals i j) ∧ (vals i j).oneCell' = true)
      (hrep : ∀ (i : Nat) (x : El t), xs[i]? = some x → ∀ (j : Nat) (c : AVal El), (L.enc t x)[j]? = some c → Rep noE c (vals i j)) :
      Rep E (.list t xs) (.slice (some ⟨b, o, none⟩) len cap)
  | vec {E : Env} {r e} (h : E r = some e) (h1 : e.raw.oneCell' = true) : Rep E (.vec r) e.raw
  | mapr {E : Env} {r b v} (h : E r = some ⟨some b, v⟩) : Rep E (.mapr r) (.map (some b))
  | agg {E : Env} {cs : List (AVal El)} {vs : List Value} (hl : cs.length = vs.length) (h : ∀ (i : Nat) (c : AVal El) (v : Value), cs[i]? = some c → vs[i]? = some v → Rep E c v)
      (h1 : ∀ v ∈ vs, v.oneCell' = true) : Rep E (.agg cs) (.agg vs.toArray)
  | tup {E : Env} {cs : List (AVal El)} {vs : List Value} (hl : cs.length = vs.length) (h : ∀ (i : Nat) (c : AVal El) (v : Value), cs[i]? = some c → vs[i]? = some v → Rep E c v) :
      Rep E (.tup cs) (.tuple vs.toArray)

/-- Lists of abstract values, place by place. -/
structure Reps (E : Env) (cs : List (AVal El)) (vs : List Value) : Prop where
  len : cs.length = vs.length
  at_ : ∀ (i : Nat) (c : AVal El) (v : Value), cs[i]? = some c → vs[i]? = some v → Rep L I w E c v
end rep

def Env.le (E E' : Env) : Prop := ∀ r e, E r = some e → E' r = some e
theorem Env.le_refl (E : Env) : E.le E := fun _ _ h => h
theorem Env.le_trans {E E' E'' : Env} (h : E.le E') (h' : E'.le E'') : E.le E'' := fun r e he => h' r e (h r e he)

section mono
variable {L : Lay El} {I I' : Nat → Prop} {w w' : World}

theorem Rep.mono {E E' : Env} {a : AVal El} {v : Value} (h : Rep L I w E a v) (hI : ∀ b, I b → I' b) (hw : ∀ b, I b → w'.heap[b]? = w.heap[b]?) (hE : E.le E') :
    Rep L I' w' E' a v := by
  induction h generalizing E' with
  | top => exact .top
  | bool => exact .bool
  | int => exact .int
  | str => exact .str
  | nilp => exact .nilp
  | nilf => exact .nilf
  | nilm => exact .nilm
  | nils => exact .nils
  | anyb => exact .anyb
  | ptr h => exact .ptr (hE _ _ h)
  | eptr h => exact .eptr (hE _ _ h)
  | lptr hi hb hh vals hc hr ih => exact .lptr hi (hI _ hb) ((hw _ hb).trans hh) vals hc (fun i x hx j c hj => ih i x hx j c hj (Env.le_refl _))
  | cs h => exact .cs (hE _ _ h)
  | fn ht hl h ih => exact .fn ht hl (fun i c v hc hv => ih i c v hc hv hE)
  | bfn hl h hl' h' ih ih' => exact .bfn hl (fun i c v hc hv => ih i c v hc hv hE) hl' (fun i c v hc hv => ih' i c v hc hv hE)
  | listNil => exact .listNil
  | list hb hh h1 h2 vals hc hr ih => exact .list (hI _ hb) ((hw _ hb).trans hh) h1 h2 vals hc (fun i x hx j c hj => ih i x hx j c hj (Env.le_refl _))
  | vec h h1 => exact .vec (hE _ _ h) h1
  | mapr h => exact .mapr (hE _ _ h)
  | agg hl h h1 ih => exact .agg hl (fun i c v hc hv => ih i c v hc hv hE) h1
  | tup hl h ih => exact .tup hl (fun i c v hc hv => ih i c v hc hv hE)

theorem Reps.mono {E E' : Env} {cs : List (AVal El)} {vs : List Value} (h : Reps L I w E cs vs) (hI : ∀ b, I b → I' b) (hw : ∀ b, I b → w'.heap[b]? = w.heap[b]?) (hE : E.le E') :
    Reps L I' w' E' cs vs := ⟨h.len, fun i c v hc hv => (h.at_ i c v hc hv).mono hI hw hE⟩
end mono

section reps
variable {L : Lay El} {I : Nat → Prop} {w : World} {E : Env}
theorem Reps.nil : Reps L I w E [] [] := ⟨rfl, fun i c v hc _ => by simp at hc⟩
theorem Reps.cons {c : AVal El} {v : Value} {cs vs} (h : Rep L I w E c v) (hs : Reps L I w E cs vs) : Reps L I w E (c :: cs) (v :: vs) := by
  refine ⟨by simp [hs.len], fun i c' v' hc hv => ?_⟩
  cases i with
  | zero => simp at hc hv; subst hc; subst hv; exact h
  | succ i => simp at hc hv; exact hs.at_ i c' v' hc hv
theorem Reps.inv_cons {c : AVal El} {cs vs} (h : Reps L I w E (c :: cs) vs) : ∃ v vs', vs = v :: vs' ∧ Rep L I w E c v ∧ Reps L I w E cs vs' := by
  cases vs with
  | nil => have := h.len; simp at this
  | cons v vs =>
    exact ⟨v, vs, rfl, h.at_ 0 c v rfl rfl, by have := h.len; simpa using this, fun i c' v' hc hv => h.at_ (i + 1) c' v' (by simpa using hc) (by simpa using hv)⟩
theorem Reps.inv_nil {vs} (h : Reps L I w E ([] : List (AVal El)) vs) : vs = [] := by
  cases vs with
  | nil => rfl
  | cons v vs => have := h.len; simp at this
theorem Reps.append {cs ds : List (AVal El)} {vs us} (h : Reps L I w E cs vs) (h' : Reps L I w E ds us) : Reps L I w E (cs ++ ds) (vs ++ us) := by
  refine ⟨by simp [h.len, h'.len], fun i c v hc hv => ?_⟩
  by_cases hi : i < cs.length
  · rw [List.getElem?_append_left hi] at hc
    rw [List.getElem?_append_left (by rw [← h.len]; exact hi)] at hv
    exact h.at_ i c v hc hv
  · rw [List.getElem?_append_right (by omega)] at hc
    rw [List.getElem?_append_right (by rw [← h.len]; omega)] at hv
    rw [← h.len] at hv
    exact h'.at_ _ c v hc hv
theorem Reps.getD {cs : List (AVal El)} {vs} (h : Reps L I w E cs vs) (i : Nat) (d : Value) : Rep L I w E (nth cs i) (vs.getD i d) := by
  rw [nth_eq]
  by_cases hi : i < cs.length
  · have hi' : i < vs.length := by rw [← h.len]; exact hi
    rw [List.getD_eq_getElem?_getD, List.getD_eq_getElem?_getD, List.getElem?_eq_getElem hi, List.getElem?_eq_getElem hi']
    exact h.at_ i _ _ (List.getElem?_eq_getElem hi) (List.getElem?_eq_getElem hi')
  · rw [List.getD_eq_getElem?_getD, List.getElem?_eq_none (by omega)]
    exact .top
theorem Reps.drop {cs : List (AVal El)} {vs} (h : Reps L I w E cs vs) (n : Nat) : Reps L I w E (cs.drop n) (vs.drop n) :=
  ⟨by simp [h.len], fun i c v hc hv => h.at_ (n + i) c v (by simpa using hc) (by simpa using hv)⟩
theorem Reps.take {cs : List (AVal El)} {vs} (h : Reps L I w E cs vs) (n : Nat) : Reps L I w E (cs.take n) (vs.take n) := by
  refine ⟨by simp [h.len], fun i c v hc hv => ?_⟩
  rw [List.getElem?_take] at hc hv
  split at hc
  · rename_i hlt
    rw [if_pos hlt] at hv
    exact h.at_ i c v hc hv
  · simp at hc
theorem Reps.set {cs : List (AVal El)} {vs} (h : Reps L I w E cs vs) (n : Nat) {c : AVal El} {v : Value} (hr : Rep L I w E c v) : Reps L I w E (cs.set n c) (vs.set n v) := by
  refine ⟨by simp [h.len], fun i c' v' hc hv => ?_⟩
  rw [List.getElem?_set] at hc hv
  split at hc
  · rename_i e
    subst e
    rw [if_pos rfl] at hv
    split at hc
    · split at hv
      · simp at hc hv; subst hc; subst hv; exact hr
      · simp at hv
    · simp at hc
  · rename_i e
    rw [if_neg e] at hv
    exact h.at_ i c' v' hc hv
end reps

/-- A resource: a block of memory that the run owns. -/
inductive Res (El : TypeId → Type) : Type
  | dead
  | cells (t : TypeId) (cs : List (AVal El))
  | vec (t : TypeId) (xs : List (El t))
  | mapS (k : IntKind) (t : TypeId) (m : List (Int × El t))
  | mapC (cs : List (AVal El))
  | recs (t : TypeId) (xs : List (El t)) (k : Nat) (nm : List (AVal El))

def getR : List (Res El) → Nat → Res El
  | [], _ => .dead
  | a :: _, 0 => a
  | _ :: l, n + 1 => getR l n

/-- Set place 'n', with dead places before it where the list is too short. -/
def setR : List (Res El) → Nat → Res El → List (Res El)
  | [], 0, x => [x]
  | [], n + 1, x => .dead :: setR [] n x
  | _ :: l, 0, x => x :: l
  | a :: l, n + 1, x => a :: setR l n x

theorem getR_setR (l : List (Res El)) (n m : Nat) (x : Res El) : getR (setR l n x) m = if m = n then x else getR l m := by
  induction l generalizing n m with
  | nil =>
    induction n generalizing m with
    | zero => cases m <;> simp [setR, getR]
    | succ n ih => cases m with
      | zero => simp [setR, getR]
      | succ m => simp [setR, getR, ih]
  | cons a l ih => cases n with
    | zero => cases m <;> simp [setR, getR]
    | succ n => cases m with
      | zero => simp [setR, getR]
      | succ m => simp [setR, getR, ih]

def updR (R : List (Res El)) : List (Nat × Res El) → List (Res El)
  | [] => R
  | (n, x) :: us => updR (setR R n x) us

/-- Keys and values of a map's entries, in turn. -/
def entL : List MapEntry → List Value
  | [] => []
  | q :: l => q.key :: q.val :: entL l
/-- A map of plain numbers, entry by entry. -/
def EntS (L : Lay El) (w : World) (k : IntKind) (t : TypeId) : List MapEntry → List (Int × El t) → Prop
  | [], [] => True
  | q :: l, p :: m => (q.key = .int k p.1 ∧ ∀ a, L.enc t p.2 = [a] → Rep L (fun _ => False) w noE a q.val ∧ q.val.oneCell' = true) ∧ EntS L w k t l m
  | _, _ => False
theorem EntS.mono {L : Lay El} {w w' : World} {k : IntKind} {t : TypeId} {l : List MapEntry} {m : List (Int × El t)} (h : EntS L w k t l m) : EntS L w' k t l m := by
  induction l generalizing m with
  | nil => cases m with
    | nil => trivial
    | cons p m => exact h.elim
  | cons q l ih => cases m with
    | nil => exact h.elim
    | cons p m => exact ⟨⟨h.1.1, fun a ha => ⟨(h.1.2 a ha).1.mono (fun _ h => h) (fun _ h => h.elim) (Env.le_refl _), (h.1.2 a ha).2⟩⟩, ih h.2⟩
section holds
variable (L : Lay El) (I : Nat → Prop) (w : World)

/-- What a resource is in memory. -/
def HRes (E : Env) (e : REnv) : Res El → Prop
  | .dead => True
  | .cells t cs => ∃ b vs, e.blk = some b ∧ w.heap[b]? = some (.cells vs.toArray t (0, 0)) ∧ Reps L I w E cs vs ∧ (∀ v ∈ vs, v.oneCell' = true)
  | .vec t xs => (e.blk = none ∧ xs = [] ∧ ∃ a, e.raw = .slice a 0 0) ∨
      ∃ b cap, ∃ cells : Array Value, ∃ vals : Nat → Nat → Value, e.blk = some b ∧ e.raw = .slice (some ⟨b, 0, none⟩) xs.length cap ∧ xs.length ≤ cap ∧
        w.heap[b]? = some (.cells cells t (0, 0)) ∧ cells.size = cap * L.sz t ∧
        (∀ i j, i < xs.length → j < L.sz t → cells[i * L.sz t + j]? = some (vals i j) ∧ (vals i j).oneCell' = true) ∧
        (∀ i x, xs[i]? = some x → ∀ j c, (L.enc t x)[j]? = some c → Rep L I w noE c (vals i j))

  | .mapS k t m => ∃ b arr clock, e.blk = some b ∧ w.heap[b]? = some (.map arr clock) ∧ EntS L w k t arr.toList m
  | .mapC cs => ∃ b arr clock l, e.blk = some b ∧ w.heap[b]? = some (.map arr clock) ∧ Reps L I w E cs (entL l) ∧ List.Perm l arr.toList ∧ (l.map (·.key)).Nodup
  | .recs t xs k nm => ∃ b cap, ∃ cells : Array Value, ∃ vals : Nat → Nat → Value, e.blk = some b ∧ e.raw = .slice (some ⟨b, 0, none⟩) xs.length cap ∧ xs.length ≤ cap ∧
        w.heap[b]? = some (.cells cells t (0, 0)) ∧ cells.size = cap * L.sz t ∧
        (∀ i j, i < xs.length → j < L.sz t → cells[i * L.sz t + j]? = some (vals i j) ∧ (vals i j).oneCell' = true) ∧
        (∀ i x, xs[i]? = some x → ∀ j c, (L.enc t x)[j]? = some c → j ≠ k → Rep L I w noE c (vals i j)) ∧
        ∃ ts : List Value, Reps L I w E nm ts ∧ ∀ i, i < xs.length → vals i k = ts.getD i (.slice none 0 0)

/-- Block 'b' is owned. -/
def Own (E : Env) (R : List (Res El)) (b : Nat) : Prop := ∃ r e, getR R r ≠ .dead ∧ E r = some e ∧ e.blk = some b

structure HR (E : Env) (R : List (Res El)) : Prop where
  res : ∀ r, getR R r ≠ .dead → ∃ e, E r = some e ∧ HRes L I w E e (getR R r)
  apart : ∀ r r' e e' b, getR R r ≠ .dead → getR R r' ≠ .dead → E r = some e → E r' = some e' → e.blk = some b → e'.blk = some b → r = r'
  notI : ∀ b, Own E R b → ¬ I b
  old : ∀ b, I b → b < w.heap.size
end holds

/-- From one world to a later one: blocks below the old size that are not in 'S' are as they were. -/
structure Fr (S : Nat → Prop) (w w' : World) : Prop where
  os : w'.os = w.os
  tape : w'.tape = w.tape
  output : w'.output = w.output
  size : w.heap.size ≤ w'.heap.size
  block : ∀ b, b < w.heap.size → ¬ S b → w'.heap[b]? = w.heap[b]?

theorem Fr.refl (S : Nat → Prop) (w : World) : Fr S w w := ⟨rfl, rfl, rfl, Nat.le_refl _, fun _ _ _ => rfl⟩
theorem Fr.weaken {S S' : Nat → Prop} {w w' : World} (h : Fr S w w') (hs : ∀ b, S b → S' b) : Fr S' w w' :=
  ⟨h.os, h.tape, h.output, h.size, fun b hb hn => h.block b hb (fun hb' => hn (hs b hb'))⟩
theorem Fr.trans {S S' : Nat → Prop} {w w1 w2 : World} (h : Fr S w w1) (h' : Fr S' w1 w2) (hs : ∀ b, S' b → S b ∨ w.heap.size ≤ b) : Fr S w w2 :=
  ⟨h'.os.trans h.os, h'.tape.trans h.tape, h'.output.trans h.output, Nat.le_trans h.size h'.size, fun b hb hn =>
    (h'.block b (Nat.lt_of_lt_of_le hb h.size) (fun hb' => (hs b hb').elim hn (fun hle => Nat.not_lt.2 hle hb))).trans (h.block b hb hn)⟩

/-- One step of the abstract state, and what it leaves alone. -/
structure Ext (I : Nat → Prop) (E : Env) (R : List (Res El)) (w : World) (I' : Nat → Prop) (E' : Env) (R' : List (Res El)) (w' : World) : Prop where
  imm : ∀ b, I b → I' b
  env : E.le E'
  fr : Fr (Own E R) w w'
  immOld : ∀ b, I' b → I b ∨ Own E R b ∨ w.heap.size ≤ b
  ownOld : ∀ b, Own E' R' b → Own E R b ∨ w.heap.size ≤ b

theorem Ext.refl {I : Nat → Prop} {E : Env} {R : List (Res El)} {w : World} : Ext I E R w I E R w :=
  ⟨fun _ h => h, Env.le_refl _, Fr.refl _ _, fun _ h => .inl h, fun _ h => .inl h⟩

theorem Ext.trans {I I1 I2 : Nat → Prop} {E E1 E2 : Env} {R R1 R2 : List (Res El)} {w w1 w2 : World} (h : Ext I E R w I1 E1 R1 w1) (h' : Ext I1 E1 R1 w1 I2 E2 R2 w2) :
    Ext I E R w I2 E2 R2 w2 where
  imm b hb := h'.imm b (h.imm b hb)
  env := Env.le_trans h.env h'.env
  fr := h.fr.trans h'.fr h.ownOld
  immOld b hb := by
    rcases h'.immOld b hb with h1 | h1 | h1
    · exact h.immOld b h1
    · exact .inr (h.ownOld b h1)
    · exact .inr (.inr (Nat.le_trans h.fr.size h1))
  ownOld b hb := by
    rcases h'.ownOld b hb with h1 | h1
    · exact h.ownOld b h1
    · exact .inr (Nat.le_trans h.fr.size h1)

section keep
variable {L : Lay El} {I I' : Nat → Prop} {E E' : Env} {R R' : List (Res El)} {w w' : World}

theorem HR.immSame (h : HR L I w E R) (hx : Ext I E R w I' E' R' w') : ∀ b, I b → w'.heap[b]? = w.heap[b]? :=
  fun b hb => hx.fr.block b (h.old b hb) (fun ho => h.notI b ho hb)

theorem HR.keepRep (h : HR L I w E R) (hx : Ext I E R w I' E' R' w') {a : AVal El} {v : Value} (hr : Rep L I w E a v) : Rep L I' w' E' a v :=
  hr.mono hx.imm (h.immSame hx) hx.env

theorem HR.keepReps (h : HR L I w E R) (hx : Ext I E R w I' E' R' w') {a : List (AVal El)} {v : List Value} (hr : Reps L I w E a v) : Reps L I' w' E' a v :=
  hr.mono hx.imm (h.immSame hx) hx.env

/-- A resource whose block is as it was stands as it stood. -/
theorem HRes.keep {e : REnv} {res : Res El} (h : HRes L I w E e res) (hI : ∀ b, I b → I' b) (hw : ∀ b, I b → w'.heap[b]? = w.heap[b]?) (hE : E.le E')
    (hb : ∀ b, e.blk = some b → b < w.heap.size → w'.heap[b]? = w.heap[b]?) : HRes L I' w' E' e res := by
  cases res with
  | dead => trivial
  | cells t cs =>
    obtain ⟨b, vs, h1, h2, h3, h4⟩ := h
    have hlt : b < w.heap.size := by
      rcases Nat.lt_or_ge b w.heap.size with h' | h'
      · exact h'
      · rw [Array.getElem?_eq_none h'] at h2; cases h2
    exact ⟨b, vs, h1, (hb b h1 hlt).trans h2, h3.mono hI hw hE, h4⟩
  | vec t xs =>
    rcases h with h | ⟨b, cap, cells, vals, h1, h2, h3, h4, h5, h6, h7⟩
    · exact .inl h
    · have hlt : b < w.heap.size := by
        rcases Nat.lt_or_ge b w.heap.size with h' | h'
        · exact h'
        · rw [Array.getElem?_eq_none h'] at h4; cases h4
      exact .inr ⟨b, cap, cells, vals, h1, h2, h3, (hb b h1 hlt).trans h4, h5, h6, fun i x hx j c hj =>
        (h7 i x hx j c hj).mono hI hw (Env.le_refl _)⟩
  | recs t xs k nm =>
    obtain ⟨b, cap, cells, vals, h1, h2, h3, h4, h5, h6, h7, ts, h8, h9⟩ := h
    have hlt : b < w.heap.size := by
      rcases Nat.lt_or_ge b w.heap.size with h' | h'
      · exact h'
      · rw [Array.getElem?_eq_none h'] at h4; cases h4
    exact ⟨b, cap, cells, vals, h1, h2, h3, (hb b h1 hlt).trans h4, h5, h6, fun i x hx j c hj hk => (h7 i x hx j c hj hk).mono hI hw (Env.le_refl _), ts, h8.mono hI hw hE, h9⟩
  | mapS k t m =>
    obtain ⟨b, arr, clock, h1, h2, h3⟩ := h
    have hlt : b < w.heap.size := by
      rcases Nat.lt_or_ge b w.heap.size with h' | h'
      · exact h'
      · rw [Array.getElem?_eq_none h'] at h2; cases h2
    exact ⟨b, arr, clock, h1, (hb b h1 hlt).trans h2, h3.mono⟩
  | mapC cs =>
    obtain ⟨b, arr, clock, l, h1, h2, h3, h4⟩ := h
    have hlt : b < w.heap.size := by
      rcases Nat.lt_or_ge b w.heap.size with h' | h'
      · exact h'
      · rw [Array.getElem?_eq_none h'] at h2; cases h2
    exact ⟨b, arr, clock, l, h1, (hb b h1 hlt).trans h2, h3.mono hI hw hE, h4⟩

theorem HRes.blk_lt {e : REnv} {res : Res El} (h : HRes L I w E e res) (hd : res ≠ .dead) {b : Nat} (hb : e.blk = some b) : b < w.heap.size := by
  have key : ∀ o, w.heap[b]? = some o → b < w.heap.size := fun o ho => by
    rcases Nat.lt_or_ge b w.heap.size with h' | h'
    · exact h'
    · rw [Array.getElem?_eq_none h'] at ho; cases ho
  cases res with
  | dead => exact absurd rfl hd
  | cells t cs =>
    obtain ⟨b', vs, h1, h2, _⟩ := h
    rw [hb] at h1; cases h1; exact key _ h2
  | vec t xs =>
    rcases h with ⟨h1, _⟩ | ⟨b', cap, cells, vals, h1, h2, h3, h4, _⟩
    · rw [hb] at h1; cases h1
    · rw [hb] at h1; cases h1; exact key _ h4
  | mapS k t m =>
    obtain ⟨b', arr, clock, h1, h2, _⟩ := h
    rw [hb] at h1; cases h1; exact key _ h2
  | mapC cs =>
    obtain ⟨b', arr, clock, l, h1, h2, _⟩ := h
    rw [hb] at h1; cases h1; exact key _ h2
  | recs t xs k nm =>
    obtain ⟨b', cap, cells, vals, h1, h2, h3, h4, _⟩ := h
    rw [hb] at h1; cases h1; exact key _ h4

theorem HR.own_lt (h : HR L I w E R) {b : Nat} (hb : Own E R b) : b < w.heap.size := by
  obtain ⟨r, e, h1, h2, h3⟩ := hb
  obtain ⟨e', h4, h5⟩ := h.res r h1
  rw [h2] at h4; cases h4
  exact h5.blk_lt h1 h3

/-- The world has grown by blocks that are nobody's: all stands. -/
theorem HR.grow (h : HR L I w E R) (hf : Fr (fun _ => False) w w') : HR L I w' E R where
  res r hr := by
    obtain ⟨e, h1, h2⟩ := h.res r hr
    exact ⟨e, h1, h2.keep (fun _ h => h) (fun b hb => hf.block b (h.old b hb) id) (Env.le_refl _) (fun b _ hlt => hf.block b hlt id)⟩
  apart := h.apart
  notI := h.notI
  old b hb := Nat.lt_of_lt_of_le (h.old b hb) hf.size

theorem Ext.grow (hf : Fr (fun _ => False) w w') : Ext I E R w I E R w' :=
  ⟨fun _ h => h, Env.le_refl _, hf.weaken (fun _ h => h.elim), fun _ h => .inl h, fun _ h => .inl h⟩
end keep
end Go.Ax
end

/- A verified symbolic executor, part 2: trees of outcomes, and the ways in which the abstract state and the world move together. No program in sight; no condition. -/
section
set_option linter.unusedVariables false
set_option linter.unusedSimpArgs false
namespace Go.Ax

/-- A tree of outcomes: 'node' asks a truth value, 'need' asks for a proof. -/
inductive Tree (X : Type) : Type
  | leaf (x : X)
  | node (b : Bool) (t e : Tree X)
  | need (p : Prop) (t : Tree X)
  | fail

def Tree.bind {X Y : Type} : Tree X → (X → Tree Y) → Tree Y
  | .leaf x, f => f x
  | .node b t e, f => .node b (t.bind f) (e.bind f)
  | .need p t, f => .need p (t.bind f)
  | .fail, _ => .fail

/-- 'x' is what the tree comes to. -/
def Tree.Out {X : Type} : Tree X → X → Prop
  | .leaf x, y => x = y
  | .node b t e, y => (b = true ∧ t.Out y) ∨ (b = false ∧ e.Out y)
  | .need p t, y => p ∧ t.Out y
  | .fail, _ => False

/-- What is to be proved so that the tree comes to something in 'K'. 'C' asks a truth value. -/
def Tree.wp {X : Type} (C : Bool → Prop → Prop → Prop) : Tree X → (X → Prop) → Prop
  | .leaf x, K => K x
  | .node b t e, K => C b (t.wp C K) (e.wp C K)
  | .need p t, K => p ∧ t.wp C K
  | .fail, _ => False

def cnd (b : Bool) (A B : Prop) : Prop := match b with | true => A | false => B
theorem cnd_intro {b : Bool} {A B : Prop} (h : b = true → A) (h' : b = false → B) : cnd b A B := by
  cases b
  · exact h' rfl
  · exact h rfl
theorem cnd_elim {b : Bool} {A B : Prop} (h : cnd b A B) : (b = true ∧ A) ∨ (b = false ∧ B) := by
  cases b
  · exact .inr ⟨rfl, h⟩
  · exact .inl ⟨rfl, h⟩

theorem Tree.out_of_wp {X : Type} {t : Tree X} {K : X → Prop} (h : t.wp cnd K) : ∃ x, t.Out x ∧ K x := by
  induction t with
  | leaf x => exact ⟨x, rfl, h⟩
  | node b t e iht ihe =>
    rcases cnd_elim h with ⟨hb, h⟩ | ⟨hb, h⟩
    · obtain ⟨x, h1, h2⟩ := iht h; exact ⟨x, .inl ⟨hb, h1⟩, h2⟩
    · obtain ⟨x, h1, h2⟩ := ihe h; exact ⟨x, .inr ⟨hb, h1⟩, h2⟩
  | need p t ih =>
    obtain ⟨x, h1, h2⟩ := ih h.2
    exact ⟨x, ⟨h.1, h1⟩, h2⟩
  | fail => exact h.elim

theorem Tree.out_bind {X Y : Type} {t : Tree X} {f : X → Tree Y} {y : Y} : (t.bind f).Out y ↔ ∃ x, t.Out x ∧ (f x).Out y := by
  induction t with
  | leaf x => exact ⟨fun h => ⟨x, rfl, h⟩, fun ⟨x', h1, h2⟩ => by cases h1; exact h2⟩
  | node b t e iht ihe =>
    constructor
    · rintro (⟨hb, h⟩ | ⟨hb, h⟩)
      · obtain ⟨x, h1, h2⟩ := iht.1 h; exact ⟨x, .inl ⟨hb, h1⟩, h2⟩
      · obtain ⟨x, h1, h2⟩ := ihe.1 h; exact ⟨x, .inr ⟨hb, h1⟩, h2⟩
    · rintro ⟨x, (⟨hb, h1⟩ | ⟨hb, h1⟩), h2⟩
      · exact .inl ⟨hb, iht.2 ⟨x, h1, h2⟩⟩
      · exact .inr ⟨hb, ihe.2 ⟨x, h1, h2⟩⟩
  | need p t ih =>
    constructor
    · rintro ⟨hp, h⟩
      obtain ⟨x, h1, h2⟩ := ih.1 h
      exact ⟨x, ⟨hp, h1⟩, h2⟩
    · rintro ⟨x, ⟨hp, h1⟩, h2⟩
      exact ⟨hp, ih.2 ⟨x, h1, h2⟩⟩
  | fail => exact ⟨fun h => h.elim, fun ⟨_, h, _⟩ => h.elim⟩

theorem Tree.out_unique {X : Type} {t : Tree X} {x y : X} (h : t.Out x) (h' : t.Out y) : x = y := by
  induction t with
  | leaf z => cases h; cases h'; rfl
  | node b t e iht ihe =>
    rcases h with ⟨hb, h⟩ | ⟨hb, h⟩
    · rcases h' with ⟨hb', h'⟩ | ⟨hb', h'⟩
      · exact iht h h'
      · rw [hb] at hb'; cases hb'
    · rcases h' with ⟨hb', h'⟩ | ⟨hb', h'⟩
      · rw [hb] at hb'; cases hb'
      · exact ihe h h'
  | need p t ih => exact ih h.2 h'.2
  | fail => exact h.elim

/-- From an option. -/
def Tree.ofO {X : Type} : Option X → Tree X
  | some x => .leaf x
  | none => .fail
theorem Tree.out_ofO {X : Type} {o : Option X} {x : X} : (Tree.ofO o).Out x ↔ o = some x := by
  cases o with
  | none => exact ⟨fun h => h.elim, fun h => by cases h⟩
  | some y => exact ⟨fun h => by cases h; rfl, fun h => by cases h; rfl⟩

variable {El : TypeId → Type}

def Env.put (E : Env) (r : Nat) (e : REnv) : Env := fun r' => if r' = r then some e else E r'
theorem Env.put_same (E : Env) (r : Nat) (e : REnv) : E.put r e r = some e := by simp [Env.put]
theorem Env.put_ne (E : Env) {r r' : Nat} (e : REnv) (h : r' ≠ r) : E.put r e r' = E r' := by simp [Env.put, h]
theorem Env.le_put {E : Env} {r : Nat} {e : REnv} (h : E r = none) : E.le (E.put r e) := by
  intro r' e' he
  by_cases hr : r' = r
  · subst hr; rw [h] at he; cases he
  · rw [Env.put_ne E e hr]; exact he

section moves
variable {L : Lay El} {I : Nat → Prop} {E : Env} {R : List (Res El)} {w w' : World}

/-- What stands behind one operation: the new state, what it yields, and that only new resources are named anew. -/
structure Post (L : Lay El) (I : Nat → Prop) (E : Env) (R : List (Res El)) (w : World) (base : Nat) (upd : List (Nat × Res El)) (a : AVal El) (v : Value) (w' : World)
    (I' : Nat → Prop) (E' : Env) : Prop where
  ext : Ext I E R w I' E' (updR R upd) w'
  hr : HR L I' w' E' (updR R upd)
  rep : Rep L I' w' E' a v
  names : ∀ r, (∀ x, (r, x) ∈ upd → r < base) → E' r = E r

/-- A new resource. -/
theorem HR.add (h : HR L I w E R) {base : Nat} (hb : E base = none) (e : REnv) (x : Res El) (hf : Fr (fun _ => False) w w') (hx : HRes L I w' (E.put base e) e x)
    (hn : ∀ b, e.blk = some b → w.heap.size ≤ b) :
    HR L I w' (E.put base e) (setR R base x) ∧ Ext I E R w I (E.put base e) (setR R base x) w' := by
  have hd : getR R base = .dead := by
    cases hg : getR R base with
    | dead => rfl
    | cells t cs => obtain ⟨e', h1, _⟩ := h.res base (by rw [hg]; simp); rw [hb] at h1; cases h1
    | vec t xs => obtain ⟨e', h1, _⟩ := h.res base (by rw [hg]; simp); rw [hb] at h1; cases h1
    | mapS k t m => obtain ⟨e', h1, _⟩ := h.res base (by rw [hg]; simp); rw [hb] at h1; cases h1
    | mapC cs => obtain ⟨e', h1, _⟩ := h.res base (by rw [hg]; simp); rw [hb] at h1; cases h1
    | recs t xs k nm => obtain ⟨e', h1, _⟩ := h.res base (by rw [hg]; simp); rw [hb] at h1; cases h1
  have hle := Env.le_put (e := e) hb
  have own : ∀ b, Own (E.put base e) (setR R base x) b → Own E R b ∨ w.heap.size ≤ b := by
    rintro b ⟨r, e', h1, h2, h3⟩
    rw [getR_setR] at h1
    by_cases hr : r = base
    · subst hr
      rw [Env.put_same] at h2; cases h2
      exact .inr (hn b h3)
    · rw [if_neg hr] at h1
      rw [Env.put_ne E e hr] at h2
      exact .inl ⟨r, e', h1, h2, h3⟩
  refine ⟨⟨?_, ?_, ?_, ?_⟩, ⟨fun _ h => h, hle, hf.weaken (fun _ h => h.elim), fun _ h => .inl h, own⟩⟩
  · intro r hr
    rw [getR_setR] at hr ⊢
    by_cases hrb : r = base
    · subst hrb
      rw [if_pos rfl]
      exact ⟨e, Env.put_same _ _ _, hx⟩
    · rw [if_neg hrb] at hr ⊢
      obtain ⟨e', h1, h2⟩ := h.res r hr
      exact ⟨e', hle _ _ h1, h2.keep (fun _ h => h) (fun b hb => hf.block b (h.old b hb) id) hle (fun b _ hlt => hf.block b hlt id)⟩
  · intro r r' e1 e2 b h1 h2 h3 h4 h5 h6
    rw [getR_setR] at h1 h2
    by_cases hr : r = base
    · by_cases hr' : r' = base
      · exact hr.trans hr'.symm
      · rw [if_neg hr'] at h2
        rw [Env.put_ne E e hr'] at h4
        subst hr
        rw [Env.put_same] at h3; cases h3
        have := h.own_lt ⟨r', e2, h2, h4, h6⟩
        have := hn b h5
        omega
    · by_cases hr' : r' = base
      · rw [if_neg hr] at h1
        rw [Env.put_ne E e hr] at h3
        subst hr'
        rw [Env.put_same] at h4; cases h4
        have := h.own_lt ⟨r, e1, h1, h3, h5⟩
        have := hn b h6
        omega
      · rw [if_neg hr] at h1
        rw [if_neg hr'] at h2
        rw [Env.put_ne E e hr] at h3
        rw [Env.put_ne E e hr'] at h4
        exact h.apart r r' e1 e2 b h1 h2 h3 h4 h5 h6
  · intro b hb hI
    rcases own b hb with ho | ho
    · exact h.notI b ho hI
    · have := h.old b hI; omega
  · exact fun b hb => Nat.lt_of_lt_of_le (h.old b hb) hf.size

/-- A resource gets new contents, in its own block. -/
theorem HR.write (h : HR L I w E R) {r : Nat} {e : REnv} {b : Nat} (hr : getR R r ≠ .dead) (he : E r = some e) (hb : e.blk = some b) (x : Res El) (hxd : x ≠ .dead)
    (hos : w'.os = w.os) (htape : w'.tape = w.tape) (hout : w'.output = w.output) (hsize : w'.heap.size = w.heap.size) (hblk : ∀ k, k ≠ b → w'.heap[k]? = w.heap[k]?)
    (hx : HRes L I w' E e x) : HR L I w' E (setR R r x) ∧ Ext I E R w I E (setR R r x) w' := by
  have hown : Own E R b := ⟨r, e, hr, he, hb⟩
  have own : ∀ k, Own E (setR R r x) k → Own E R k := by
    rintro k ⟨r', e', h1, h2, h3⟩
    rw [getR_setR] at h1
    by_cases hrr : r' = r
    · subst hrr
      rw [he] at h2; cases h2
      exact ⟨r', e, hr, he, h3⟩
    · rw [if_neg hrr] at h1
      exact ⟨r', e', h1, h2, h3⟩
  have hI : ∀ k, I k → w'.heap[k]? = w.heap[k]? := fun k hk => hblk k (fun hkb => h.notI b hown (hkb ▸ hk))
  refine ⟨⟨?_, ?_, fun k hk => h.notI k (own k hk), fun k hk => by rw [hsize]; exact h.old k hk⟩,
    ⟨fun _ h => h, Env.le_refl _, ⟨hos, htape, hout, Nat.le_of_eq hsize.symm, fun k _ hk => hblk k (fun hkb => hk (hkb ▸ hown))⟩, fun _ h => .inl h, fun k hk => .inl (own k hk)⟩⟩
  · intro r' hr'
    rw [getR_setR] at hr' ⊢
    by_cases hrr : r' = r
    · rw [if_pos hrr]; subst hrr; exact ⟨e, he, hx⟩
    · rw [if_neg hrr] at hr' ⊢
      obtain ⟨e', h1, h2⟩ := h.res r' hr'
      exact ⟨e', h1, h2.keep (fun _ h => h) hI (Env.le_refl _) (fun k hk _ => hblk k (fun hkb => hrr (h.apart r' r e' e b hr' hr h1 he (hkb ▸ hk) hb)))⟩
  · intro r1 r2 e1 e2 k h1 h2 h3 h4 h5 h6
    rw [getR_setR] at h1 h2
    have g : ∀ r', (if r' = r then x else getR R r') ≠ .dead → getR R r' ≠ .dead := by
      intro r' hd
      by_cases hrr : r' = r
      · subst hrr; exact hr
      · rwa [if_neg hrr] at hd
    exact h.apart r1 r2 e1 e2 k (g r1 h1) (g r2 h2) h3 h4 h5 h6

/-- A resource is let go; its block may be frozen for good. -/
theorem HR.kill (h : HR L I w E R) {r : Nat} {e : REnv} (hr : getR R r ≠ .dead) (he : E r = some e) (I' : Nat → Prop) (hI : ∀ b, I b → I' b)
    (hI' : ∀ b, I' b → I b ∨ e.blk = some b) :
    HR L I' w E (setR R r .dead) ∧ Ext I E R w I' E (setR R r .dead) w := by
  have own : ∀ k, Own E (setR R r .dead) k → Own E R k ∧ e.blk ≠ some k := by
    rintro k ⟨r', e', h1, h2, h3⟩
    rw [getR_setR] at h1
    by_cases hrr : r' = r
    · rw [if_pos hrr] at h1; exact absurd rfl h1
    · rw [if_neg hrr] at h1
      exact ⟨⟨r', e', h1, h2, h3⟩, fun hk => hrr (h.apart r' r e' e k h1 hr h2 he h3 hk)⟩
  refine ⟨⟨?_, ?_, ?_, ?_⟩, ⟨hI, Env.le_refl _, Fr.refl _ _, ?_, fun k hk => .inl (own k hk).1⟩⟩
  · intro r' hr'
    rw [getR_setR] at hr' ⊢
    by_cases hrr : r' = r
    · rw [if_pos hrr] at hr'; exact absurd rfl hr'
    · rw [if_neg hrr] at hr' ⊢
      obtain ⟨e', h1, h2⟩ := h.res r' hr'
      exact ⟨e', h1, h2.keep hI (fun _ _ => rfl) (Env.le_refl _) (fun _ _ _ => rfl)⟩
  · intro r1 r2 e1 e2 k h1 h2 h3 h4 h5 h6
    rw [getR_setR] at h1 h2
    have g : ∀ r', (if r' = r then Res.dead else getR R r') ≠ .dead → getR R r' ≠ .dead := by
      intro r' hd
      by_cases hrr : r' = r
      · subst hrr; exact hr
      · rwa [if_neg hrr] at hd
    exact h.apart r1 r2 e1 e2 k (g r1 h1) (g r2 h2) h3 h4 h5 h6
  · intro k hk hIk
    obtain ⟨h1, h2⟩ := own k hk
    rcases hI' k hIk with h3 | h3
    · exact h.notI k h1 h3
    · exact h2 h3
  · intro k hk
    rcases hI' k hk with h3 | h3
    · exact h.old k h3
    · exact h.own_lt ⟨r, e, hr, he, h3⟩
  · intro k hk
    rcases hI' k hk with h3 | h3
    · exact .inl h3
    · exact .inr (.inl ⟨r, e, hr, he, h3⟩)

theorem Fr.drew (w : World) : Fr (fun _ => False) w w.drew := ⟨rfl, rfl, rfl, Nat.le_refl _, fun _ _ _ => rfl⟩
theorem Fr.alloc (w : World) (o : Obj) : Fr (fun _ => False) w (w.alloc o) :=
  ⟨rfl, rfl, rfl, by simp, fun b hb _ => by simp only [World.alloc, Array.getElem?_push, Nat.ne_of_lt hb, if_false]⟩
theorem heap_alloc_new (w : World) (o : Obj) : (w.alloc o).heap[w.heap.size]? = some o := by simp only [World.alloc, Array.getElem?_push, if_true]

/-- A new block of cells. -/
theorem HR.addCells (h : HR L I w E R) {base : Nat} (hb : E base = none) (t : TypeId) {cs : List (AVal El)} {vs : List Value} (hr : Reps L I w E cs vs) (h1 : ∀ v ∈ vs, v.oneCell' = true) :
    Post L I E R w base [(base, .cells t cs)] (.ptr base 0) (.pointer (some ⟨w.heap.size, 0, none⟩)) (w.alloc (.cells vs.toArray t)) I (E.put base ⟨some w.heap.size, undef⟩) := by
  have hf := Fr.alloc w (.cells vs.toArray t)
  have hle := Env.le_put (E := E) (r := base) (e := ⟨some w.heap.size, undef⟩) hb
  obtain ⟨g1, g2⟩ := h.add hb ⟨some w.heap.size, undef⟩ (.cells t cs) hf
    ⟨w.heap.size, vs, rfl, heap_alloc_new w _, hr.mono (fun _ h => h) (fun b hb => hf.block b (h.old b hb) id) hle, h1⟩ (fun b hb => by cases hb; exact Nat.le_refl _)
  exact ⟨g2, g1, .ptr (Env.put_same _ _ _), fun r hr => Env.put_ne _ _ (fun e => absurd (hr (.cells t cs) (by rw [e]; simp)) (by omega))⟩

/-- Nothing moved. -/
theorem HR.still (h : HR L I w E R) {base : Nat} {a : AVal El} {v : Value} (hr : Rep L I w E a v) : Post L I E R w base [] a v w I E :=
  ⟨Ext.refl, h, hr, fun _ _ => rfl⟩
end moves
end Go.Ax
end

/- A verified symbolic executor, part 3: what each operation that calls no Go function does to abstract values and resources, and that the model does just that. Over any program; the facts on its types are given with it. -/
section
set_option linter.unusedVariables false
set_option linter.unusedSimpArgs false
namespace Go.Ax
variable {El : TypeId → Type}

/-- Cells that are numbers or truth values, compared one by one. -/
def eqVals : List Value → List Value → Option Bool
  | [], [] => some true
  | .int k x :: as, .int k' y :: bs => if k = k' then (eqVals as bs).map fun r => (x == y) && r else none
  | .bool x :: as, .bool y :: bs => (eqVals as bs).map fun r => (x == y) && r
  | _, _ => none

/-- Which cells are numbers ('true') and which are truth values. -/
def shpV : List Value → List Bool → Bool
  | [], [] => true
  | .int _ _ :: as, true :: s => shpV as s
  | .bool _ :: as, false :: s => shpV as s
  | _, _ => false

/-- A value that stands for the same in every world. -/
def flatA : AVal El → Bool
  | .bool _ | .int _ _ | .str _ | .nilp | .nilf | .nilm | .nils | .anyb => true
  | _ => false
def flatL : List (AVal El) → Bool
  | [] => true
  | a :: l => flatA a && flatL l
theorem flatL_at {l : List (AVal El)} (h : flatL l = true) {i : Nat} {a : AVal El} (ha : l[i]? = some a) : flatA a = true := by
  induction l generalizing i with
  | nil => simp at ha
  | cons b l ih =>
    simp only [flatL, Bool.and_eq_true] at h
    cases i with
    | zero => simp at ha; subst ha; exact h.1
    | succ i => simp at ha; exact ih h.2 ha
theorem Rep.flat {L : Lay El} {I I' : Nat → Prop} {w w' : World} {E E' : Env} {a : AVal El} {v : Value} (h : Rep L I w E a v) (hf : flatA a = true) : Rep L I' w' E' a v := by
  cases h <;> first | (simp [flatA] at hf; done) | exact .bool | exact .int | exact .str | exact .nilp | exact .nilf | exact .nilm | exact .nils | exact .anyb

/-- A value that stands for the same whatever the names: a plain one, or a list that never changes. -/
def datA : AVal El → Bool
  | .bool _ | .int _ _ | .str _ | .nilp | .nilf | .nilm | .nils | .anyb | .list _ _ | .top => true
  | _ => false
def datL : List (AVal El) → Bool
  | [] => true
  | a :: l => datA a && datL l
theorem datL_at {l : List (AVal El)} (h : datL l = true) {i : Nat} {a : AVal El} (ha : l[i]? = some a) : datA a = true := by
  induction l generalizing i with
  | nil => simp at ha
  | cons b l ih =>
    simp only [datL, Bool.and_eq_true] at h
    cases i with
    | zero => simp at ha; subst ha; exact h.1
    | succ i => simp at ha; exact ih h.2 ha
theorem Rep.dat {L : Lay El} {I : Nat → Prop} {w : World} {E E' : Env} {a : AVal El} {v : Value} (h : Rep L I w E a v) (hf : datA a = true) : Rep L I w E' a v := by
  cases h with
  | listNil => exact .listNil
  | list hI hh h1 h2 vals hc hr => exact .list hI hh h1 h2 vals hc hr
  | bool => exact .bool
  | int => exact .int
  | str => exact .str
  | nilp => exact .nilp
  | nilf => exact .nilf
  | nilm => exact .nilm
  | nils => exact .nils
  | anyb => exact .anyb
  | top => exact .top
  | _ => simp [datA] at hf
theorem datA_of_flat {a : AVal El} (h : flatA a = true) : datA a = true := by cases a <;> first | rfl | (simp [flatA] at h; done)

/-- The program, the layout of the elements of its slices, and the facts on its types. -/
structure Cx (El : TypeId → Type) where
  P : Program
  L : Lay El
  known : TypeId → Bool
  known_ok : ∀ t, known t = true → (P.info? t).map (·.size) = some (L.sz t) ∧ 0 < L.sz t
  zero_ok : ∀ t, known t = true → ∃ z, (P.info? t).bind (·.zero) = some z ∧ z.cells.size = L.sz t ∧ ∀ i : Nat, i < L.sz t → ∃ v, z.cells[i]? = some v ∧ v.oneCell' = true ∧
    ∀ (I : Nat → Prop) (w : World) (c : AVal El), (L.enc t (L.dflt t))[i]? = some c → Rep L I w noE c v
  flat : TypeId → Bool
  flat_ok : ∀ t, flat t = true → ∀ x, flatL (L.enc t x) = true
  eqT : TypeId → Option (List Bool)
  eq_ok : ∀ t s, eqT t = some s → ∀ (xs ys : List Value) (r : Bool), eqVals xs ys = some r → shpV xs s = true → ∀ (w : World) (x y : Operand),
    (eqGuard .eql t x y (.agg xs.toArray) (.agg ys.toArray)).run P w = .ok () w ∧ (eqGuard .neq t x y (.agg xs.toArray) (.agg ys.toArray)).run P w = .ok () w ∧
    (binOp .eql t (.agg xs.toArray) (.agg ys.toArray)).run P w = .ok (.bool r) w ∧ (binOp .neq t (.agg xs.toArray) (.agg ys.toArray)).run P w = .ok (.bool !r) w
  mixed : P.follows .mixedOrders = true
  /-- Whether a remainder by three is looked at, case by case. -/
  split3 : Bool := false
  /-- Structs of plain numbers that are keys of maps. -/
  keyT : TypeId → Bool := fun _ => false
  key_ok : ∀ t, keyT t = true → (match P.underlying t with | some (.array _ _) | some (.struct _) => true | _ => false) = true ∧ ∀ s, eqT t = some s → ∀ xs : List Value, shpV xs s = true → ∀ (em : Bool) (w : World), (Instr.checkKey em 10000 t (.agg xs.toArray)).run P w = .ok () w := by intro t h; cases h
  /-- Elements of vectors that hold lists. -/
  dat : TypeId → Bool := fun _ => false
  dat_ok : ∀ t, dat t = true → ∀ x, datL (L.enc t x) = true := by intro t h; cases h
  /-- Records with a cell that names a slice of the run's own. -/
  recT : TypeId → Option Nat := fun _ => none
  /-- What a named slice holds. -/
  recE : TypeId → TypeId := fun t => t
  rec_ok : ∀ t k, recT t = some k → k < L.sz t ∧ ((P.info? t).bind (·.zero)).bind (fun z => z.cells[k]?) = some (.slice none 0 0) := by intro t k h; cases h

/-- Elements that may stand in a vector of the run's own. -/
def Cx.dt (c : Cx El) (t : TypeId) : Bool := c.flat t || c.dat t
theorem Cx.dt_at (c : Cx El) {t : TypeId} (h : c.dt t = true) (x : El t) {j : Nat} {a : AVal El} (ha : (c.L.enc t x)[j]? = some a) : datA a = true := by
  unfold Cx.dt at h
  rcases Bool.or_eq_true_iff.1 h with h | h
  · exact datA_of_flat (flatL_at (c.flat_ok t h x) ha)
  · exact datL_at (c.dat_ok t h x) ha

def cellsOf : AVal El → Option (List (AVal El))
  | .agg cs => some cs
  | .top => none
  | .tup _ => none
  | a => some [a]

def takeF : Nat → List (AVal El) → Option (List (AVal El))
  | 0, _ => some []
  | n + 1, a :: l => (takeF n l).map (a :: ·)
  | _ + 1, [] => none
def dropF : Nat → List (AVal El) → List (AVal El)
  | 0, l => l
  | n + 1, _ :: l => dropF n l
  | _ + 1, [] => []
theorem dropF_eq (n : Nat) (l : List (AVal El)) : dropF n l = l.drop n := by
  induction n generalizing l with
  | zero => rfl
  | succ n ih => cases l <;> simp [dropF, ih]
theorem takeF_some {n : Nat} {l r : List (AVal El)} (h : takeF n l = some r) : r = l.take n ∧ n ≤ l.length := by
  induction n generalizing l r with
  | zero => simp [takeF] at h; subst h; simp
  | succ n ih =>
    cases l with
    | nil => simp [takeF] at h
    | cons a l =>
      simp only [takeF, Option.map_eq_some_iff] at h
      obtain ⟨r', h1, rfl⟩ := h
      obtain ⟨rfl, h2⟩ := ih h1
      simp; omega

/-- 'l' with 'cs' written over it from place 'n' on. -/
def putF : List (AVal El) → Nat → List (AVal El) → Option (List (AVal El))
  | l, 0, [] => some l
  | _ :: l, 0, c :: cs => (putF l 0 cs).map (c :: ·)
  | [], 0, _ :: _ => none
  | a :: l, n + 1, cs => (putF l n cs).map (a :: ·)
  | [], _ + 1, _ => none
theorem putF_some {l r : List (AVal El)} {n : Nat} {cs : List (AVal El)} (h : putF l n cs = some r) : r = l.take n ++ cs ++ l.drop (n + cs.length) ∧ n + cs.length ≤ l.length := by
  induction l generalizing n cs r with
  | nil =>
    cases n with
    | zero => cases cs with
      | nil => simp [putF] at h; subst h; simp
      | cons c cs => simp [putF] at h
    | succ n => simp [putF] at h
  | cons a l ih =>
    cases n with
    | zero => cases cs with
      | nil => simp [putF] at h; subst h; simp
      | cons c cs =>
        simp only [putF, Option.map_eq_some_iff] at h
        obtain ⟨r', h1, rfl⟩ := h
        obtain ⟨e, hl⟩ := ih h1
        subst e
        simp at hl ⊢; omega
    | succ n =>
      simp only [putF, Option.map_eq_some_iff] at h
      obtain ⟨r', h1, rfl⟩ := h
      obtain ⟨e, hl⟩ := ih h1
      subst e
      refine ⟨?_, by simp; omega⟩
      rw [show n + 1 + cs.length = (n + cs.length) + 1 from by omega]
      simp

def isAggT (P : Program) (t : TypeId) : Option Bool :=
  match P.underlying t with
  | some (.struct _) | some (.array _ _) => some true
  | some _ => some false
  | none => none
theorem run_isAggT {P : Program} {t : TypeId} {b : Bool} (h : isAggT P t = some b) (w : World) : (isAgg t).run P w = .ok b w := by
  unfold isAggT at h
  cases hu : P.underlying t with
  | none => simp [hu] at h
  | some d => cases d <;> simp [hu] at h <;> subst h <;> simp [isAgg, run_underlying hu]

section ops
variable (c : Cx El) (R : List (Res El))

/-- The cells from an address on. -/
def cellsAt : AVal El → Tree (List (AVal El))
  | .ptr r off => match getR R r with
    | .cells _ cs => .leaf (dropF off cs)
    | _ => .fail
  | .lptr t xs _ i off => .leaf (dropF off (c.L.enc t (xs.getD i (c.L.dflt t))))
  | .eptr r sz i off => match getR R r with
    | .vec t xs => if sz = c.L.sz t then .need (i < xs.length) (.leaf (dropF off (c.L.enc t (xs.getD i (c.L.dflt t))))) else .fail
    | _ => .fail
  | _ => .fail

def aPart (t : TypeId) (cs : List (AVal El)) : Tree (AVal El) :=
  match isAggT c.P t, (c.P.info? t).map (·.size) with
  | some true, some n => match takeF n cs with
    | some l => .leaf (.agg l)
    | none => .fail
  | some false, some _ => match cs with
    | a :: _ => .leaf a
    | [] => .fail
  | _, _ => .fail

def aLoad (t : TypeId) (a : AVal El) : Tree (AVal El) := (cellsAt c R a).bind (aPart c t)
end ops

section rows
variable {L : Lay El} {I : Nat → Prop} {E : Env} {R : List (Res El)} {w : World} {c : Cx El}

/-- A run of cells in memory, from an address on. -/
structure RowAt (L : Lay El) (I : Nat → Prop) (w : World) (E : Env) (a : Addr) (cs : List (AVal El)) (vs : List Value) : Prop where
  reps : Reps L I w E cs vs
  one : ∀ v ∈ vs, v.oneCell' = true
  at_ : ∀ j v, vs[j]? = some v → w.cell? (a.add j) = some v

theorem cell_of {w : World} {b o : Nat} {cells : Array Value} {t : TypeId} {fz : Nat × Nat} (h : w.heap[b]? = some (.cells cells t fz)) : w.cell? ⟨b, o, none⟩ = cells[o]? := by
  simp [World.cell?, h]

theorem list_of_fun (vals : Nat → Value) (n : Nat) : ∃ vs : List Value, vs.length = n ∧ ∀ j, j < n → vs[j]? = some (vals j) :=
  ⟨(List.range n).map vals, by simp, fun j hj => by simp [hj]⟩

/-- The cells of one element. -/
theorem elem_row {t : TypeId} {xs : List (El t)} {i b o : Nat} {cells : Array Value} {ty : TypeId} {fz : Nat × Nat} {I' : Nat → Prop} (hi : i < xs.length) (hb : w.heap[b]? = some (.cells cells ty fz)) (vals : Nat → Nat → Value)
    (hcells : ∀ (i j : Nat), i < xs.length → j < L.sz t → cells[o + i * L.sz t + j]? = some (vals i j) ∧ (vals i j).oneCell' = true)
    (hrep : ∀ (i : Nat) (x : El t), xs[i]? = some x → ∀ (j : Nat) (c : AVal El), (L.enc t x)[j]? = some c → Rep L I' w noE c (vals i j)) (hI' : ∀ b, I' b → I b) :
    ∃ vs, RowAt L I w E ⟨b, o + i * L.sz t, none⟩ (L.enc t (xs.getD i (L.dflt t))) vs := by
  obtain ⟨vs, hl, hv⟩ := list_of_fun (vals i) (L.sz t)
  have hx : xs[i]? = some xs[i] := List.getElem?_eq_getElem hi
  have hg : xs.getD i (L.dflt t) = xs[i] := by simp [List.getD, hx]
  refine ⟨vs, ⟨by rw [L.enc_len, hl], fun j c v hc hv' => ?_⟩, fun v hv' => ?_, fun j v hv' => ?_⟩
  · have hj : j < L.sz t := by
      rcases Nat.lt_or_ge j vs.length with h | h
      · omega
      · rw [List.getElem?_eq_none h] at hv'; cases hv'
    rw [hv j hj] at hv'; cases hv'
    rw [hg] at hc
    exact (hrep i _ hx j c hc).mono hI' (fun _ _ => rfl) (fun _ _ h => by cases h)
  · obtain ⟨j, hj⟩ := List.mem_iff_getElem?.1 hv'
    have hj' : j < L.sz t := by
      rcases Nat.lt_or_ge j vs.length with h | h
      · omega
      · rw [List.getElem?_eq_none h] at hj; cases hj
    rw [hv j hj'] at hj; cases hj
    exact (hcells i j hi hj').2
  · have hj' : j < L.sz t := by
      rcases Nat.lt_or_ge j vs.length with h | h
      · omega
      · rw [List.getElem?_eq_none h] at hv'; cases hv'
    rw [hv j hj'] at hv'; cases hv'
    rw [Addr.add_lit, cell_of hb]
    exact (hcells i j hi hj').1

theorem RowAt.drop {a : Addr} {cs : List (AVal El)} {vs : List Value} (h : RowAt L I w E a cs vs) (n : Nat) (ha : a.spot = none) : RowAt L I w E (a.add n) (cs.drop n) (vs.drop n) := by
  refine ⟨h.reps.drop n, fun v hv => h.one v (List.mem_of_mem_drop hv), fun j v hv => ?_⟩
  have := h.at_ (n + j) v (by simpa using hv)
  obtain ⟨b, o, s⟩ := a
  simp at ha
  subst ha
  rw [Addr.add_lit, Addr.add_lit]
  rw [Addr.add_lit] at this
  rwa [Nat.add_assoc]

theorem cells_row {e : REnv} {t : TypeId} {cs : List (AVal El)} {r b : Nat} {v : Value} (h : HRes L I w E e (.cells t cs)) (he : e = ⟨some b, v⟩) :
    ∃ vs, RowAt L I w E ⟨b, 0, none⟩ cs vs ∧ w.heap[b]? = some (.cells vs.toArray t (0, 0)) := by
  obtain ⟨b', vs, h1, h2, h3, h4⟩ := h
  subst he
  cases h1
  exact ⟨vs, ⟨h3, h4, fun j v hv => by rw [Addr.add_lit, cell_of h2]; simpa using hv⟩, h2⟩

theorem cellsAt_ok (h : HR c.L I w E R) {a : AVal El} {v : Value} {cs : List (AVal El)} (hr : Rep c.L I w E a v) (ho : (cellsAt c R a).Out cs) :
    ∃ b o vs, v = .pointer (some ⟨b, o, none⟩) ∧ RowAt c.L I w E ⟨b, o, none⟩ cs vs := by
  cases hr <;> simp only [cellsAt, Tree.Out] at ho
  case ptr r off b v' he =>
    split at ho
    · rename_i t cs' hg
      simp only [Tree.Out] at ho; subst ho
      obtain ⟨e, h1, h2⟩ := h.res r (by rw [hg]; simp)
      rw [he] at h1; cases h1
      rw [hg] at h2
      obtain ⟨vs, g1, g2⟩ := cells_row (r := r) h2 rfl
      have g3 := g1.drop off rfl
      rw [Addr.add_lit, Nat.zero_add] at g3
      rw [dropF_eq]
      exact ⟨_, _, _, rfl, g3⟩
    · exact ho.elim
  case lptr t xs i off b o hi cells ty fz hI hb vals hc hrep =>
    subst ho
    obtain ⟨vs, g1⟩ := elem_row (E := E) hi hb vals hc hrep (fun _ h => h)
    have g3 := g1.drop off rfl
    rw [Addr.add_lit] at g3
    rw [dropF_eq]
    exact ⟨_, _, _, rfl, g3⟩
  case eptr r sz i off b v' he =>
    split at ho
    · rename_i t xs hg
      split at ho
      · rename_i hsz
        simp only [Tree.Out] at ho
        obtain ⟨hi, ho⟩ := ho
        subst ho
        obtain ⟨e, h1, h2⟩ := h.res r (by rw [hg]; simp)
        rw [he] at h1; cases h1
        rw [hg] at h2
        rcases h2 with ⟨h2, _⟩ | ⟨b', cap, cells, vals, h2, h3, h4, h5, h6, h7, h8⟩
        · cases h2
        · cases h2
          subst hsz
          obtain ⟨vs, g1⟩ := elem_row (I := I) (E := E) (o := 0) hi h5 vals (by simpa using h7) h8 (fun _ h => h)
          have g3 := g1.drop off rfl
          rw [Addr.add_lit, Nat.zero_add] at g3
          rw [dropF_eq]
          exact ⟨_, _, _, rfl, g3⟩
      · exact ho.elim
    · exact ho.elim

theorem Reps.agg {cs : List (AVal El)} {vs : List Value} (h : Reps L I w E cs vs) (h1 : ∀ v ∈ vs, v.oneCell' = true) : Rep L I w E (.agg cs) (.agg vs.toArray) := .agg h.len h.at_ h1

theorem info_size {P : Program} {t : TypeId} {n : Nat} (h : (P.info? t).map (·.size) = some n) (w : World) : (sizeOf t).run P w = .ok n w := by
  cases hi : P.info? t with
  | none => simp [hi] at h
  | some i => simp [hi] at h; simp [sizeOf, typeInfo, hi, h]

theorem aLoad_ok (h : HR c.L I w E R) {t : TypeId} {a x : AVal El} {v : Value} (hr : Rep c.L I w E a v) (ho : (aLoad c R t a).Out x) :
    ∃ u, (Instr.loadAt t v).run c.P w = .ok u w ∧ Rep c.L I w E x u := by
  unfold aLoad at ho
  rw [Tree.out_bind] at ho
  obtain ⟨cs, h1, h2⟩ := ho
  obtain ⟨b, o, vs, rfl, row⟩ := cellsAt_ok h hr h1
  unfold aPart at h2
  split at h2
  · rename_i n hagg hn
    split at h2
    · rename_i l hl
      simp only [Tree.Out] at h2; subst h2
      obtain ⟨rfl, hle⟩ := takeF_some hl
      have hlen : n = (vs.take n).length := by have := row.reps.len; simp; omega
      have hcells : (loadCells ⟨b, o, none⟩ n).run c.P w = .ok (vs.take n).toArray w := by
        have := run_loadCells_list (P := c.P) w ⟨b, o, none⟩ (vs.take n) (fun j u hu => row.at_ j u (by
          rw [List.getElem?_take] at hu
          split at hu
          · exact hu
          · cases hu))
        rwa [← hlen] at this
      refine ⟨.agg (vs.take n).toArray, ?_, (row.reps.take n).agg (fun v hv => row.one v (List.mem_of_mem_take hv))⟩
      simp [Instr.loadAt, Instr.sureAddr, loadVar, run_isAggT hagg, info_size hn, hcells]
    · exact h2.elim
  · rename_i n hagg hn
    split at h2
    · rename_i a' rest
      simp only [Tree.Out] at h2; subst h2
      obtain ⟨u, us, rfl, g1, g2⟩ := row.reps.inv_cons
      have := row.at_ 0 u rfl
      rw [Addr.add_lit, Nat.add_zero] at this
      refine ⟨u, ?_, g1⟩
      simp [Instr.loadAt, Instr.sureAddr, loadVar, run_isAggT hagg, this]
    · exact h2.elim
  · exact h2.elim
end rows
end Go.Ax
end

/- A verified symbolic executor, part 4: stores, new blocks, arithmetic, conversions, addresses. Over any program; the facts on its types are given with it. -/
section
set_option linter.unusedVariables false
set_option linter.unusedSimpArgs false
namespace Go.Ax
variable {El : TypeId → Type}

section defs
variable (c : Cx El) (R : List (Res El))

/-- What an operation yields, and which resources it turns or names. -/
abbrev Eff (El : TypeId → Type) := AVal El × List (Nat × Res El)

def aStore (t : TypeId) (a x : AVal El) : Tree (Eff El) :=
  match cellsOf x, (c.P.info? t).map (·.size) with
  | some cs, some n => if cs.length = n then
      match a with
      | .ptr r off => match getR R r with
        | .cells ty old => match putF old off cs with
          | some new => .leaf (.top, [(r, .cells ty new)])
          | none => .fail
        | _ => .fail
      | .eptr r sz i off => match getR R r with
        | .vec t' xs => if sz = c.L.sz t' ∧ c.dt t' = true then
            match putF (c.L.enc t' (xs.getD i (c.L.dflt t'))) off cs with
            | some new => match c.L.dec t' new with
              | some y => .need (i < xs.length) (.leaf (.top, [(r, .vec t' (xs.set i y))]))
              | none => .fail
            | none => .fail
          else .fail
        | _ => .fail
      | _ => .fail
    else .fail
  | _, _ => .fail

def aBox (base : Nat) (t : TypeId) (x : AVal El) : Tree (Eff El) :=
  match cellsOf x with
  | some cs => .leaf (.ptr base 0, [(base, .cells t cs)])
  | none => .fail

/-- A constant's cell. -/
def absC : Value → Option (AVal El)
  | .bool b => some (.bool b)
  | .int k n => some (.int k n)
  | .string s => some (.str s)
  | .pointer none => some .nilp
  | .nilFunc => some .nilf
  | .map none => some .nilm
  | .slice none 0 0 => some .nils
  | _ => none
def absL : List Value → Option (List (AVal El))
  | [] => some []
  | v :: vs => match absC v, absL vs with
    | some a, some as => some (a :: as)
    | _, _ => none
def absV : Value → AVal El
  | .agg cs => match absL cs.toList with
    | some l => .agg l
    | none => .top
  | v => match absC v with
    | some a => a
    | none => .top

def aAlloc (base : Nat) (t : TypeId) : Tree (Eff El) :=
  match (c.P.info? t).bind (·.zero) with
  | some z => aBox base t (absV z)
  | none => .fail
end defs

section proofs
variable {I : Nat → Prop} {E : Env} {R : List (Res El)} {w : World} {c : Cx El} {L : Lay El}

theorem Rep.cells_of {a : AVal El} {v : Value} {cs : List (AVal El)} (h : Rep L I w E a v) (hc : cellsOf a = some cs) :
    ∃ vs, v.cells = vs.toArray ∧ Reps L I w E cs vs ∧ ∀ u ∈ vs, u.oneCell' = true := by
  have one : ∀ {a : AVal El} {v : Value}, Rep L I w E a v → cellsOf a = some [a] → v.oneCell' = true → v.cells = #[v] →
      ∃ vs, v.cells = vs.toArray ∧ Reps L I w E [a] vs ∧ ∀ u ∈ vs, u.oneCell' = true := fun {a v} h _ h1 h2 =>
    ⟨[v], by rw [h2], Reps.cons h Reps.nil, fun u hu => by simp at hu; subst hu; exact h1⟩
  cases h with
  | top => simp [cellsOf] at hc
  | tup => simp [cellsOf] at hc
  | vec h h1 =>
    simp only [cellsOf, Option.some.injEq] at hc; subst hc
    refine one (.vec h h1) rfl h1 ?_
    revert h1
    rename_i e
    cases e.raw <;> intro h1 <;> first | rfl | (simp [Value.oneCell'] at h1)
  | agg hl h h1 =>
    simp only [cellsOf, Option.some.injEq] at hc; subst hc
    exact ⟨_, rfl, ⟨hl, h⟩, h1⟩
  | bool => simp only [cellsOf, Option.some.injEq] at hc; subst hc; exact one .bool rfl rfl rfl
  | int => simp only [cellsOf, Option.some.injEq] at hc; subst hc; exact one .int rfl rfl rfl
  | str => simp only [cellsOf, Option.some.injEq] at hc; subst hc; exact one .str rfl rfl rfl
  | nilp => simp only [cellsOf, Option.some.injEq] at hc; subst hc; exact one .nilp rfl rfl rfl
  | nilf => simp only [cellsOf, Option.some.injEq] at hc; subst hc; exact one .nilf rfl rfl rfl
  | nilm => simp only [cellsOf, Option.some.injEq] at hc; subst hc; exact one .nilm rfl rfl rfl
  | nils => simp only [cellsOf, Option.some.injEq] at hc; subst hc; exact one .nils rfl rfl rfl
  | anyb => simp only [cellsOf, Option.some.injEq] at hc; subst hc; exact one .anyb rfl rfl rfl
  | ptr h => simp only [cellsOf, Option.some.injEq] at hc; subst hc; exact one (.ptr h) rfl rfl rfl
  | eptr h => simp only [cellsOf, Option.some.injEq] at hc; subst hc; exact one (.eptr h) rfl rfl rfl
  | lptr h1 h2 h3 h4 h5 h6 => simp only [cellsOf, Option.some.injEq] at hc; subst hc; exact one (.lptr h1 h2 h3 h4 h5 h6) rfl rfl rfl
  | cs h => simp only [cellsOf, Option.some.injEq] at hc; subst hc; exact one (.cs h) rfl rfl rfl
  | fn ht hl h => simp only [cellsOf, Option.some.injEq] at hc; subst hc; exact one (.fn ht hl h) rfl rfl rfl
  | bfn hl h hl' h' => simp only [cellsOf, Option.some.injEq] at hc; subst hc; exact one (.bfn hl h hl' h') rfl rfl rfl
  | listNil => simp only [cellsOf, Option.some.injEq] at hc; subst hc; exact one .listNil rfl rfl rfl
  | list h1 h2 h3 h4 h5 h6 h7 => simp only [cellsOf, Option.some.injEq] at hc; subst hc; exact one (.list h1 h2 h3 h4 h5 h6 h7) rfl rfl rfl
  | mapr h => simp only [cellsOf, Option.some.injEq] at hc; subst hc; exact one (.mapr h) rfl rfl rfl

theorem absC_ok {v : Value} {a : AVal El} (h : absC v = some a) : Rep L I w E a v ∧ v.oneCell' = true := by
  unfold absC at h
  split at h <;> first | (cases h; done) | (simp only [Option.some.injEq] at h; subst h; first | exact ⟨.bool, rfl⟩ | exact ⟨.int, rfl⟩ | exact ⟨.str, rfl⟩ | exact ⟨.nilp, rfl⟩ | exact ⟨.nilf, rfl⟩ | exact ⟨.nilm, rfl⟩ | exact ⟨.nils, rfl⟩)

theorem absL_ok {vs : List Value} {as : List (AVal El)} (h : absL vs = some as) : Reps L I w E as vs ∧ ∀ v ∈ vs, v.oneCell' = true := by
  induction vs generalizing as with
  | nil => simp [absL] at h; subst h; exact ⟨Reps.nil, by simp⟩
  | cons v vs ih =>
    simp only [absL] at h
    split at h
    · rename_i a as' h1 h2
      simp only [Option.some.injEq] at h; subst h
      obtain ⟨g1, g2⟩ := absC_ok (L := L) (I := I) (w := w) (E := E) h1
      obtain ⟨g3, g4⟩ := ih h2
      exact ⟨Reps.cons g1 g3, fun u hu => by
        rcases List.mem_cons.1 hu with rfl | hu
        · exact g2
        · exact g4 u hu⟩
    · cases h

theorem absV_ok (v : Value) : Rep L I w E (absV v : AVal El) v := by
  unfold absV
  split
  · rename_i cs
    split
    · rename_i l hl
      obtain ⟨g1, g2⟩ := absL_ok (L := L) (I := I) (w := w) (E := E) hl
      have := g1.agg g2
      simpa using this
    · exact .top
  · split
    · rename_i a ha
      exact (absC_ok ha).1
    · exact .top

theorem aBox_ok (h : HR c.L I w E R) {base : Nat} {t : TypeId} {x : AVal El} {v : Value} (hb : E base = none) (hr : Rep c.L I w E x v) {y : Eff El} (ho : (aBox base t x).Out y) :
    ∃ u w' I' E', (Instr.box t v).run c.P w = .ok u w' ∧ Post c.L I E R w base y.2 y.1 u w' I' E' := by
  unfold aBox at ho
  split at ho
  · rename_i cs hc
    simp only [Tree.Out] at ho; subst ho
    obtain ⟨vs, g1, g2, g3⟩ := hr.cells_of hc
    refine ⟨_, _, _, _, ?_, h.addCells hb t g2 g3⟩
    simp [Instr.box, newVar, newRow, g1]
  · exact ho.elim

theorem aAlloc_ok (h : HR c.L I w E R) {base : Nat} {t : TypeId} (hb : E base = none) {y : Eff El} (ho : (aAlloc c base t).Out y) :
    ∃ u w' I' E', (Instr.alloc t true (.tuple #[])).run c.P w = .ok u w' ∧ Post c.L I E R w base y.2 y.1 u w' I' E' := by
  unfold aAlloc at ho
  split at ho
  · rename_i z hz
    obtain ⟨u, w', I', E', h1, h2⟩ := aBox_ok h hb (absV_ok z) ho
    refine ⟨u, w', I', E', ?_, h2⟩
    have hz' : (zeroValue t).run c.P w = .ok z w := by
      cases hi : c.P.info? t with
      | none => simp [hi] at hz
      | some i => simp [hi] at hz; simp [zeroValue, typeInfo, hi, hz]
    simp only [Instr.alloc, Sem.run_bind, hz', Result.andThen_ok]
    simpa [Instr.box] using h1
  · exact ho.elim

theorem splice_reps {cs ds : List (AVal El)} {vs us : List Value} (h : Reps L I w E cs vs) (h' : Reps L I w E ds us) (n : Nat) :
    Reps L I w E (cs.take n ++ ds ++ cs.drop (n + ds.length)) (vs.take n ++ us ++ vs.drop (n + us.length)) := by
  rw [← h'.len]
  exact ((h.take n).append h').append (h.drop _)

theorem one_splice {vs us : List Value} (h : ∀ v ∈ vs, v.oneCell' = true) (h' : ∀ v ∈ us, v.oneCell' = true) (n m : Nat) : ∀ v ∈ vs.take n ++ us ++ vs.drop m, v.oneCell' = true := by
  intro v hv
  rcases List.mem_append.1 hv with hv | hv
  · rcases List.mem_append.1 hv with hv | hv
    · exact h v (List.mem_of_mem_take hv)
    · exact h' v hv
  · exact h v (List.mem_of_mem_drop hv)

theorem splice_get {α : Type} (l m : List α) (n : Nat) (h : n + m.length ≤ l.length) (k : Nat) :
    (l.take n ++ m ++ l.drop (n + m.length))[k]? = if n ≤ k ∧ k < n + m.length then m[k - n]? else l[k]? := by
  have hl : (l.take n).length = n := by simp; omega
  by_cases h1 : k < n
  · rw [List.append_assoc, List.getElem?_append_left (by omega), if_neg (by omega), List.getElem?_take, if_pos h1]
  · by_cases h2 : k < n + m.length
    · rw [List.append_assoc, List.getElem?_append_right (by omega), List.getElem?_append_left (by omega), if_pos (by omega), hl]
    · rw [List.getElem?_append_right (by simp; omega), if_neg (by omega), List.getElem?_drop]
      congr 1
      simp; omega

theorem aStore_ok (h : HR c.L I w E R) {base : Nat} {t : TypeId} {a x : AVal El} {va vx : Value} (ha : Rep c.L I w E a va) (hx : Rep c.L I w E x vx) {y : Eff El}
    (ho : (aStore c R t a x).Out y) : ∃ w' I' E', (Instr.storeAt t va vx).run c.P w = .ok () w' ∧ Post c.L I E R w base y.2 y.1 undef w' I' E' := by
  unfold aStore at ho
  split at ho
  · rename_i cs n hcs hn
    split at ho
    · rename_i hlen
      obtain ⟨us, g1, g2, g3⟩ := hx.cells_of hcs
      have hul : us.length = n := by rw [← g2.len]; exact hlen
      have hst : ∀ (b o : Nat) (cur : Array Value) (ty : TypeId), w.heap[b]? = some (.cells cur ty (0, 0)) → o + us.length ≤ cur.size → va = .pointer (some ⟨b, o, none⟩) →
          (Instr.storeAt t va vx).run c.P w = .ok () (w.setRow b (cur.toList.take o ++ us ++ cur.toList.drop (o + us.length)).toArray) := by
        intro b o cur ty hb hle hva
        have hr := run_storeCells_at c.P b o ty us 0 cur w hb (by simpa using hle) g3
        simp only [Nat.add_zero] at hr
        subst hva
        have hsz : vx.cells.size = n := by rw [g1]; simpa using hul
        have hsz' : us.length = n := hul
        simp only [Instr.storeAt, Instr.sureAddr, storeVar, Sem.run_bind, Sem.run_pure, Result.andThen_ok, info_size hn, hsz, ne_eq, not_true_eq_false, if_false]
        rw [g1]
        simpa using hr
      cases ha <;> simp only at ho <;> try exact ho.elim
      case ptr r off b v he =>
        split at ho
        · rename_i ty old hg
          split at ho
          · rename_i new hput
            simp only [Tree.Out] at ho; subst ho
            obtain ⟨rfl, hle⟩ := putF_some hput
            obtain ⟨e, h1, h2⟩ := h.res r (by rw [hg]; simp)
            rw [he] at h1; cases h1
            rw [hg] at h2
            obtain ⟨b', vs, k1, k2, k3, k4⟩ := h2
            cases k1
            have hsize : off + us.length ≤ vs.toArray.size := by rw [← g2.len]; have := k3.len; simp; omega
            have hrun := hst b off vs.toArray ty k2 hsize rfl
            have hnew := splice_reps k3 g2 off
            have hkeep : ∀ k, k ≠ b → (w.setRow b (vs.toArray.toList.take off ++ us ++ vs.toArray.toList.drop (off + us.length)).toArray).heap[k]? = w.heap[k]? := fun k hk => setRow_other w b k _ hk
            have hIw : ∀ k, I k → (w.setRow b (vs.toArray.toList.take off ++ us ++ vs.toArray.toList.drop (off + us.length)).toArray).heap[k]? = w.heap[k]? :=
              fun k hk => hkeep k (fun e => h.notI b ⟨r, _, by rw [hg]; simp, he, rfl⟩ (e ▸ hk))
            obtain ⟨m1, m2⟩ := h.write (r := r) (by rw [hg]; simp) he rfl (.cells ty (old.take off ++ cs ++ old.drop (off + cs.length))) (by simp)
              (w' := w.setRow b (vs.toArray.toList.take off ++ us ++ vs.toArray.toList.drop (off + us.length)).toArray) rfl rfl rfl (setRow_size _ _ _) hkeep
              ⟨b, vs.take off ++ us ++ vs.drop (off + us.length), rfl, by simpa using setRow_heap w b _ (vs.take off ++ us ++ vs.drop (off + us.length)).toArray ty (0, 0) k2, hnew.mono (fun _ h => h) hIw (Env.le_refl _), one_splice k4 g3 _ _⟩
            exact ⟨_, I, E, hrun, ⟨m2, m1, .top, fun _ _ => rfl⟩⟩
          · exact ho.elim
        · exact ho.elim
      case eptr r sz i off b v he =>
        split at ho
        · rename_i t' xs hg
          split at ho
          · rename_i hsz
            obtain ⟨hsz, hflat⟩ := hsz
            split at ho
            · rename_i new hput
              split at ho
              · rename_i y' hdec
                simp only [Tree.Out] at ho
                obtain ⟨hi, ho⟩ := ho; subst ho
                subst hsz
                obtain ⟨rfl, hle⟩ := putF_some hput
                rw [c.L.enc_len] at hle
                obtain ⟨e, h1, h2⟩ := h.res r (by rw [hg]; simp)
                rw [he] at h1; cases h1
                rw [hg] at h2
                rcases h2 with ⟨k0, _⟩ | ⟨b', cap, cells, vals, k0, k1, k2, k3, k4, k5, k6⟩
                · cases k0
                · cases k0
                  have hmul : (i + 1) * c.L.sz t' ≤ cap * c.L.sz t' := Nat.mul_le_mul_right _ (by omega)
                  rw [Nat.succ_mul] at hmul
                  have hsize : (i * c.L.sz t' + off) + us.length ≤ cells.size := by rw [← g2.len, k4]; omega
                  have hrun := hst b (i * c.L.sz t' + off) cells t' k3 hsize rfl
                  have hdec' := c.L.dec_enc _ _ _ hdec
                  have hIw : ∀ k, I k → (w.setRow b (cells.toList.take (i * c.L.sz t' + off) ++ us ++ cells.toList.drop (i * c.L.sz t' + off + us.length)).toArray).heap[k]? = w.heap[k]? :=
                    fun k hk => setRow_other w b k _ (fun e => h.notI b ⟨r, _, by rw [hg]; simp, he, rfl⟩ (e ▸ hk))
                  -- the new cells
                  have hx0 : xs[i]? = some xs[i] := List.getElem?_eq_getElem hi
                  have hgD : xs.getD i (c.L.dflt t') = xs[i] := by simp [List.getD, hx0]
                  have hnew : HRes c.L I (w.setRow b (cells.toList.take (i * c.L.sz t' + off) ++ us ++ cells.toList.drop (i * c.L.sz t' + off + us.length)).toArray) E ⟨some b, v⟩ (.vec t' (xs.set i y')) := by
                    refine .inr ⟨b, cap, _, fun i' j' => if i' = i ∧ off ≤ j' ∧ j' < off + us.length then us.getD (j' - off) undef else vals i' j', rfl, by simpa using k1, by simpa using k2,
                      setRow_heap w b _ _ t' (0, 0) k3, by
                        have := hsize
                        simp only [List.size_toArray, List.length_append, List.length_take, List.length_drop, Array.length_toList]
                        omega, ?_, ?_⟩
                    · intro i' j' hi' hj'
                      dsimp only
                      simp only [List.length_set] at hi'
                      have hv := k5 i' j' hi' hj'
                      have hspl := splice_get cells.toList us (i * c.L.sz t' + off) (by simpa using hsize) (i' * c.L.sz t' + j')
                      have hiff : (i * c.L.sz t' + off ≤ i' * c.L.sz t' + j' ∧ i' * c.L.sz t' + j' < i * c.L.sz t' + off + us.length) ↔ (i' = i ∧ off ≤ j' ∧ j' < off + us.length) := by
                        have hul' : off + us.length ≤ c.L.sz t' := by rw [← g2.len]; exact hle
                        constructor
                        · rintro ⟨p1, p2⟩
                          have hii : i' = i := by
                            rcases Nat.lt_trichotomy i' i with hlt | heq | hgt
                            · have : (i' + 1) * c.L.sz t' ≤ i * c.L.sz t' := Nat.mul_le_mul_right _ hlt
                              rw [Nat.succ_mul] at this; omega
                            · exact heq
                            · have : (i + 1) * c.L.sz t' ≤ i' * c.L.sz t' := Nat.mul_le_mul_right _ hgt
                              rw [Nat.succ_mul] at this; omega
                          subst hii
                          exact ⟨rfl, by omega, by omega⟩
                        · rintro ⟨rfl, p1, p2⟩
                          omega
                      rw [List.getElem?_toArray, hspl]
                      by_cases hc' : i' = i ∧ off ≤ j' ∧ j' < off + us.length
                      · rw [if_pos (hiff.2 hc'), if_pos hc']
                        obtain ⟨rfl, p1, p2⟩ := hc'
                        have hk : i' * c.L.sz t' + j' - (i' * c.L.sz t' + off) = j' - off := by omega
                        have hlt : j' - off < us.length := by omega
                        rw [hk, List.getD_eq_getElem?_getD, List.getElem?_eq_getElem hlt]
                        exact ⟨rfl, g3 _ (List.getElem_mem hlt)⟩
                      · rw [if_neg (fun h => hc' (hiff.1 h)), if_neg hc']
                        simpa using hv
                    · intro i' x' hx' j' c' hc'
                      dsimp only
                      by_cases hii : i' = i
                      · subst hii
                        rw [List.getElem?_set_self hi] at hx'
                        cases hx'
                        rw [hdec', hgD] at hc'
                        have hl2 : (c.L.enc t' xs[i']).length = c.L.sz t' := c.L.enc_len _ _
                        rw [splice_get _ _ _ (by rw [hl2]; exact hle)] at hc'
                        by_cases hc2 : off ≤ j' ∧ j' < off + cs.length
                        · rw [if_pos hc2] at hc'
                          have hlt : j' - off < us.length := by rw [← g2.len]; omega
                          rw [if_pos ⟨rfl, hc2.1, by rw [← g2.len]; exact hc2.2⟩, List.getD_eq_getElem?_getD, List.getElem?_eq_getElem hlt]
                          have hrep := g2.at_ (j' - off) c' _ hc' (List.getElem?_eq_getElem hlt)
                          exact (hrep.dat (c.dt_at hflat y' (j := j') (by rw [hdec', hgD, splice_get _ _ _ (by rw [hl2]; exact hle), if_pos hc2]; exact hc'))).mono (fun _ h => h) hIw (Env.le_refl _)
                        · rw [if_neg hc2] at hc'
                          rw [if_neg (fun hh => hc2 ⟨hh.2.1, by rw [g2.len]; exact hh.2.2⟩)]
                          exact (k6 i' _ hx0 j' c' hc').mono (fun _ h => h) hIw (Env.le_refl _)
                      · rw [List.getElem?_set_ne (Ne.symm hii)] at hx'
                        rw [if_neg (fun hh => hii hh.1)]
                        exact (k6 i' x' hx' j' c' hc').mono (fun _ h => h) hIw (Env.le_refl _)
                  obtain ⟨m1, m2⟩ := h.write (r := r) (by rw [hg]; simp) he rfl (.vec t' (xs.set i y')) (by simp)
                    (w' := w.setRow b (cells.toList.take (i * c.L.sz t' + off) ++ us ++ cells.toList.drop (i * c.L.sz t' + off + us.length)).toArray) rfl rfl rfl (setRow_size _ _ _) (fun k hk => setRow_other w b k _ hk) hnew
                  exact ⟨_, I, E, hrun, ⟨m2, m1, .top, fun _ _ => rfl⟩⟩
              · exact ho.elim
            · exact ho.elim
          · exact ho.elim
        · exact ho.elim
    · exact ho.elim
  · exact ho.elim
end proofs
end Go.Ax
end

/- A verified symbolic executor, part 5: arithmetic, comparisons, conversions, fields, indexes, slicing. Over any program; the facts on its types are given with it. -/
section
set_option linter.unusedVariables false
set_option linter.unusedSimpArgs false
namespace Go.Ax
variable {El : TypeId → Type}

section defs
variable (c : Cx El) (R : List (Res El))

def aint (op : BinOp) (k : IntKind) (x y : Int) : Tree (AVal El) :=
  match op with
  | .add => .leaf (.int k (k.wrap (x + y)))
  | .sub => .leaf (.int k (k.wrap (x - y)))
  | .mul => .leaf (.int k (k.wrap (x * y)))
  | .quo => .need (y ≠ 0) (.leaf (.int k (k.wrap (x.tdiv y))))
  | .rem => .need (y ≠ 0) (.leaf (.int k (x.tmod y)))
  | .and => .leaf (.int k (Go.bits .and k x y))
  | .or => .leaf (.int k (Go.bits .or k x y))
  | .xor => .leaf (.int k (Go.bits .xor k x y))
  | .eql => .leaf (.bool (x == y))
  | .neq => .leaf (.bool (x != y))
  | .lss => .leaf (.bool (decide (x < y)))
  | .leq => .leaf (.bool (decide (x ≤ y)))
  | .gtr => .leaf (.bool (decide (x > y)))
  | .geq => .leaf (.bool (decide (x ≥ y)))
  | _ => .fail

/-- A remainder; by three, case by case. -/
def remT (sp : Bool) (k : IntKind) (x y : Int) : Tree (AVal El) := match sp with
  | false => aint .rem k x y
  | true => match decide (y = 3) with
    | false => aint .rem k x y
    | true => .need (y ≠ 0) (.node (decide (x.tmod 3 = 0)) (.leaf (.int k 0)) (.node (decide (x.tmod 3 = 1)) (.leaf (.int k 1)) (.need (x.tmod 3 = 2) (.leaf (.int k 2)))))

def eqCells : List (AVal El) → List (AVal El) → Option Bool
  | [], [] => some true
  | .int k x :: as, .int k' y :: bs => if k = k' then (eqCells as bs).map fun r => (x == y) && r else none
  | .bool x :: as, .bool y :: bs => (eqCells as bs).map fun r => (x == y) && r
  | _, _ => none

def shpC : List (AVal El) → List Bool → Bool
  | [], [] => true
  | .int _ _ :: as, true :: s => shpC as s
  | .bool _ :: as, false :: s => shpC as s
  | _, _ => false

def isBoolT (P : Program) (t : TypeId) : Bool := match P.underlying t with | some .bool => true | _ => false
def isPtrT (P : Program) (t : TypeId) : Bool := match P.underlying t with | some (.pointer _) => true | _ => false
def isSliceT (P : Program) (t : TypeId) : Bool := match P.underlying t with | some (.slice _) => true | _ => false
def isMapT (P : Program) (t : TypeId) : Bool := match P.underlying t with | some (.map _ _) => true | _ => false

def aeq (t : TypeId) (a b : AVal El) : Option Bool :=
  match a, b with
  | .bool x, .bool y => if isBoolT c.P t then some (x == y) else none
  | .agg cs, .agg ds => match c.eqT t with
    | some s => if shpC cs s = true then eqCells cs ds else none
    | none => none
  | .ptr _ _, .nilp | .eptr _ _ _ _, .nilp | .lptr _ _ _ _ _, .nilp => if isPtrT c.P t then some false else none
  | .nilp, .nilp => if isPtrT c.P t then some true else none
  | .nils, .nils => if isSliceT c.P t then some true else none
  | .nilm, .nilm => if isMapT c.P t then some true else none
  | .mapr _, .nilm => if isMapT c.P t then some false else none
  | _, _ => none

/-- A list against nil: where it is empty, that is not known. -/
def nilq (t : TypeId) (a b : AVal El) : Option Bool :=
  match a, b with
  | .list _ xs, .nils => match isSliceT c.P t with
    | true => some xs.isEmpty
    | false => none
  | _, _ => none

def aBin (op : BinOp) (t : TypeId) (a b : AVal El) : Tree (AVal El) :=
  match a, b with
  | .int k x, .int k' y =>
    match op with
    | .shl => .need (0 ≤ y) (.leaf (.int k (k.wrap (x * 2 ^ (min y.toNat k.bits)))))
    | .shr => .need (0 ≤ y) (.leaf (.int k (x.fdiv (2 ^ (min y.toNat k.bits)))))
    | .rem => if k = k' then remT c.split3 k x y else .fail
    | op => if k = k' then aint op k x y else .fail
  | a, b =>
    match op with
    | .eql => match aeq c t a b with | some r => .leaf (.bool r) | none => match nilq c t a b with | some e => .node e (.leaf .anyb) (.leaf (.bool false)) | none => .fail
    | .neq => match aeq c t a b with | some r => .leaf (.bool (!r)) | none => match nilq c t a b with | some e => .node e (.leaf .anyb) (.leaf (.bool true)) | none => .fail
    | _ => .fail

def aUn (op : UnOp) (a : AVal El) : Tree (AVal El) :=
  match op, a with
  | .not, .bool b => .leaf (.bool (!b))
  | .neg, .int k n => .leaf (.int k (k.wrap (0 - n)))
  | _, _ => .fail

def aConv (src dst : TypeId) (a : AVal El) : Tree (AVal El) :=
  match a, c.P.underlying src, c.P.underlying dst with
  | .int _ n, some _, some (.int k) => .leaf (.int k (k.wrap n))
  | _, _, _ => .fail

def fieldOf (s : TypeId) (f : Nat) : Option Nat :=
  match c.P.underlying s with
  | some (.struct fs) => match fs.toList[f]? with
    | some fl => match (c.P.info? fl.type).map (·.size) with
      | some (_ + 1) => some fl.offset
      | _ => none
    | none => none
  | _ => none

def aField (s : TypeId) (a : AVal El) (f : Nat) : Tree (AVal El) :=
  match fieldOf c s f with
  | some o => match a with
    | .ptr r off => .leaf (.ptr r (off + o))
    | .eptr r sz i off => .leaf (.eptr r sz i (off + o))
    | .lptr t xs sz i off => .leaf (.lptr t xs sz i (off + o))
    | _ => .fail
  | none => .fail

/-- One of the numbers below 'n'. -/
def splitIdx {X : Type} (i : Int) (f : Nat → Tree X) : Nat → Nat → Tree X
  | 0, _ => .fail
  | n + 1, j => .node (decide (i = (j : Int))) (f j) (splitIdx i f n (j + 1))

def aIndexAddr (t : TypeId) (a ix : AVal El) : Tree (AVal El) :=
  match ix, c.P.underlying t with
  | .int _ i, some (.array n e) => match a, (c.P.info? e).map (·.size) with
    | .ptr r off, some s => splitIdx i (fun j => .leaf (.ptr r (off + j * s))) n 0
    | _, _ => .fail
  | .int _ i, some (.slice e) => match a with
    | .list t' xs => if t' = e ∧ c.known e = true then .need (0 ≤ i ∧ i < xs.length) (.leaf (.lptr t' xs (c.L.sz t') i.toNat 0)) else .fail
    | .vec r => match getR R r with
      | .vec t' xs => if t' = e ∧ c.known e = true then .need (0 ≤ i ∧ i < xs.length) (.leaf (.eptr r (c.L.sz t') i.toNat 0)) else .fail
      | _ => .fail
    | .cs r off n => match (c.P.info? e).map (·.size) with
      | some s => splitIdx i (fun j => .leaf (.ptr r (off + j * s))) n 0
      | none => .fail
    | _ => .fail
  | _, _ => .fail

def aIndex (t : TypeId) (a ix : AVal El) : Tree (AVal El) :=
  match ix, c.P.underlying t, a with
  | .int _ i, some (.array n e), .agg cs => match (c.P.info? e).map (·.size) with
    | some s => splitIdx i (fun j => aPart c e (dropF (j * s) cs)) n 0
    | none => .fail
  | _, _, _ => .fail
/-- A field of a struct value. -/
def aFieldV (t : TypeId) (a : AVal El) (f : Nat) : Tree (AVal El) :=
  match c.P.underlying t, a with
  | some (.struct fs), .agg cs => match fs.toList[f]? with
    | some fl => aPart c fl.type (dropF fl.offset cs)
    | none => .fail
  | _, _ => .fail
end defs

section proofs
variable {I : Nat → Prop} {E : Env} {R : List (Res El)} {w : World} {c : Cx El} {L : Lay El}

theorem eqCells_ok {cs ds : List (AVal El)} {vs us : List Value} {r : Bool} (h : eqCells cs ds = some r) (hc : Reps L I w E cs vs) (hd : Reps L I w E ds us) : eqVals vs us = some r := by
  induction cs generalizing ds vs us r with
  | nil =>
    cases ds with
    | nil => rw [hc.inv_nil, hd.inv_nil]; simpa [eqCells, eqVals] using h
    | cons d ds => simp [eqCells] at h
  | cons a cs ih =>
    cases ds with
    | nil => cases a <;> simp [eqCells] at h
    | cons d ds =>
      obtain ⟨v, vs', rfl, h1, h2⟩ := hc.inv_cons
      obtain ⟨u, us', rfl, h3, h4⟩ := hd.inv_cons
      unfold eqCells at h
      split at h <;> try (simp at *; done)
      · rename_i k x as k' y bs e1 e2
        simp only [List.cons.injEq] at e1 e2
        obtain ⟨rfl, rfl⟩ := e1
        obtain ⟨rfl, rfl⟩ := e2
        cases h1; cases h3
        split at h
        · rename_i hk
          simp only [Option.map_eq_some_iff] at h
          obtain ⟨r', g1, g2⟩ := h
          simp only [eqVals, if_pos hk, ih g1 h2 h4, Option.map_some, g2]
        · cases h
      · rename_i x as y bs e1 e2
        simp only [List.cons.injEq] at e1 e2
        obtain ⟨rfl, rfl⟩ := e1
        obtain ⟨rfl, rfl⟩ := e2
        cases h1; cases h3
        simp only [Option.map_eq_some_iff] at h
        obtain ⟨r', g1, g2⟩ := h
        simp only [eqVals, ih g1 h2 h4, Option.map_some, g2]

theorem run_equal_of {P : Program} {t : TypeId} {a b : Value} {r : Bool} (h : ∀ d, (Op.equalIn (d + 1) t a b).run P w = .ok r w) : (Op.equal t a b).run P w = .ok r w := h 9999

theorem run_eq_of {P : Program} {t : TypeId} {a b : Value} {r : Bool} (hb : (Op.equal t a b).run P w = .ok r w)
    (h1 : ∀ op x y, eqGuard op t x y a b = pure ()) (h2 : binOp .eql t a b = (do pure (.bool (← Op.equal t a b)))) (h3 : binOp .neq t a b = (do pure (.bool (!(← Op.equal t a b))))) (x y : Operand) :
    ((do eqGuard .eql t x y a b; binOp .eql t a b) : Sem Value).run P w = .ok (.bool r) w ∧ ((do eqGuard .neq t x y a b; binOp .neq t a b) : Sem Value).run P w = .ok (.bool (!r)) w := by
  constructor
  · rw [h1, h2]; simp [hb]
  · rw [h1, h3]; simp [hb]

theorem shpC_ok {cs : List (AVal El)} {vs : List Value} {s : List Bool} (h : shpC cs s = true) (hc : Reps L I w E cs vs) : shpV vs s = true := by
  induction cs generalizing vs s with
  | nil => rw [hc.inv_nil]; cases s <;> simp [shpC] at h ⊢; rfl
  | cons a cs ih =>
    obtain ⟨v, vs', rfl, h1, h2⟩ := hc.inv_cons
    unfold shpC at h
    split at h
    · rename_i e; cases e
    · rename_i e; cases e; cases h1; simp only [shpV]; exact ih h h2
    · rename_i e; cases e; cases h1; simp only [shpV]; exact ih h h2
    · cases h

theorem aeq_ok {t : TypeId} {a b : AVal El} {va vb : Value} {r : Bool} (ha : Rep c.L I w E a va) (hb : Rep c.L I w E b vb) (h : aeq c t a b = some r) (x y : Operand) :
    ((do eqGuard .eql t x y va vb; binOp .eql t va vb) : Sem Value).run c.P w = .ok (.bool r) w ∧ ((do eqGuard .neq t x y va vb; binOp .neq t va vb) : Sem Value).run c.P w = .ok (.bool (!r)) w := by
  have hptr : isPtrT c.P t = true → ∃ e, c.P.underlying t = some (.pointer e) := by
    intro h
    unfold isPtrT at h
    split at h
    · rename_i e he; exact ⟨e, he⟩
    · cases h
  have hmap : isMapT c.P t = true → ∃ e f, c.P.underlying t = some (.map e f) := by
    intro h
    unfold isMapT at h
    split at h
    · rename_i e f he; exact ⟨e, f, he⟩
    · cases h
  have ptrNil : ∀ p : Addr, isPtrT c.P t = true → va = .pointer (some p) → vb = .pointer none → r = false →
      ((do eqGuard .eql t x y va vb; binOp .eql t va vb) : Sem Value).run c.P w = .ok (.bool r) w ∧ ((do eqGuard .neq t x y va vb; binOp .neq t va vb) : Sem Value).run c.P w = .ok (.bool (!r)) w := by
    rintro p hp rfl rfl rfl
    obtain ⟨e, he⟩ := hptr hp
    exact run_eq_of (run_equal_of fun d => by simp [Op.equalIn, run_underlying he]) (fun op x y => by cases op <;> rfl) rfl rfl x y
  unfold aeq at h
  split at h
  · cases ha; cases hb
    split at h
    · rename_i hbt
      unfold isBoolT at hbt
      split at hbt
      · rename_i hu
        simp only [Option.some.injEq] at h; subst h
        exact run_eq_of (run_equal_of fun d => by simp [Op.equalIn, run_underlying hu]) (fun op x y => by cases op <;> rfl) rfl rfl x y
      · cases hbt
    · cases h
  · rename_i cs ds
    cases ha with
    | agg hl hh h1 =>
      rename_i vs
      cases hb with
      | agg hl' hh' h1' =>
        rename_i us
        split at h
        · rename_i s hs
          split at h
          · rename_i hq
            have hv := eqCells_ok h ⟨hl, hh⟩ ⟨hl', hh'⟩
            obtain ⟨k1, k2, k3, k4⟩ := c.eq_ok t s hs vs us r hv (shpC_ok hq ⟨hl, hh⟩) w x y
            exact ⟨by simp [k1, k3], by simp [k2, k4]⟩
          · cases h
        · cases h
  · cases hb
    split at h
    · rename_i hp
      simp only [Option.some.injEq] at h
      cases ha; exact ptrNil _ hp rfl rfl h.symm
    · cases h
  · cases hb
    split at h
    · rename_i hp
      simp only [Option.some.injEq] at h
      cases ha; exact ptrNil _ hp rfl rfl h.symm
    · cases h
  · cases hb
    split at h
    · rename_i hp
      simp only [Option.some.injEq] at h
      cases ha; exact ptrNil _ hp rfl rfl h.symm
    · cases h
  · cases ha; cases hb
    split at h
    · rename_i hp
      obtain ⟨e, he⟩ := hptr hp
      simp only [Option.some.injEq] at h; subst h
      exact run_eq_of (run_equal_of fun d => by simp [Op.equalIn, run_underlying he]) (fun op x y => by cases op <;> rfl) rfl rfl x y
    · cases h
  · cases ha; cases hb
    split at h
    · rename_i hp
      unfold isSliceT at hp
      split at hp
      · rename_i e he
        simp only [Option.some.injEq] at h; subst h
        exact run_eq_of (run_equal_slice_nil w t e _ _ _ he) (fun op x y => by cases op <;> rfl) rfl rfl x y
      · cases hp
    · cases h
  · cases ha; cases hb
    split at h
    · rename_i hp
      obtain ⟨e, f, he⟩ := hmap hp
      simp only [Option.some.injEq] at h; subst h
      exact run_eq_of (run_equal_of fun d => by simp [Op.equalIn, run_underlying he]) (fun op x y => by cases op <;> rfl) rfl rfl x y
    · cases h
  · cases ha; cases hb
    split at h
    · rename_i hp
      obtain ⟨e, f, he⟩ := hmap hp
      simp only [Option.some.injEq] at h; subst h
      exact run_eq_of (run_equal_of fun d => by simp [Op.equalIn, run_underlying he]) (fun op x y => by cases op <;> rfl) rfl rfl x y
    · cases h
  · cases h

theorem aint_ok {op : BinOp} {k : IntKind} {n m : Int} {r : AVal El} (ho : (aint op k n m).Out r) (t : TypeId) : ∃ v, (binOp op t (.int k n) (.int k m)).run c.P w = .ok v w ∧ Rep L I w E r v := by
  cases op <;> simp only [aint, Tree.Out] at ho
  case add => subst ho; exact ⟨_, by rw [binOp_add]; rfl, .int⟩
  case sub => subst ho; exact ⟨_, by rw [binOp_sub]; rfl, .int⟩
  case mul => subst ho; exact ⟨_, by rw [binOp_mul]; rfl, .int⟩
  case quo =>
    obtain ⟨h0, e⟩ := ho; subst e
    exact ⟨.int k (k.wrap (n.tdiv m)), by rw [binOp_quo]; simp [Op.intDiv, h0], .int⟩
  case rem =>
    obtain ⟨h0, e⟩ := ho; subst e
    exact ⟨.int k (n.tmod m), by rw [binOp_rem]; simp [Op.intDiv, h0], .int⟩
  case and => subst ho; exact ⟨_, by rw [binOp_and]; rfl, .int⟩
  case or => subst ho; exact ⟨_, by rw [binOp_or]; rfl, .int⟩
  case xor => subst ho; exact ⟨_, by rw [binOp_xor]; rfl, .int⟩
  case eql => subst ho; exact ⟨_, by rw [binOp_eql]; rfl, .bool⟩
  case neq => subst ho; exact ⟨_, by rw [binOp_neq]; rfl, .bool⟩
  case lss => subst ho; exact ⟨_, by rw [binOp_lss]; rfl, .bool⟩
  case leq => subst ho; exact ⟨_, by rw [binOp_leq]; rfl, .bool⟩
  case gtr => subst ho; exact ⟨_, by rw [binOp_gtr]; rfl, .bool⟩
  case geq => subst ho; exact ⟨_, by rw [binOp_geq]; rfl, .bool⟩

theorem remT_ok {sp : Bool} {k : IntKind} {n m : Int} {r : AVal El} (ho : (remT sp k n m).Out r) (t : TypeId) : ∃ v, (binOp .rem t (.int k n) (.int k m)).run c.P w = .ok v w ∧ Rep L I w E r v := by
  unfold remT at ho
  split at ho
  · exact aint_ok ho t
  · split at ho
    · exact aint_ok ho t
    · rename_i hy
      have hy : m = 3 := of_decide_eq_true hy
      subst hy
      simp only [Tree.Out] at ho
      have key : ∃ v, (binOp .rem t (.int k n) (.int k 3)).run c.P w = .ok v w ∧ Rep L I w E (.int k (n.tmod 3)) v := ⟨.int k (n.tmod 3), by rw [binOp_rem]; simp [Op.intDiv], .int⟩
      rcases ho with ⟨_, ⟨h0, rfl⟩ | ⟨_, ⟨h0, rfl⟩ | ⟨_, h0, rfl⟩⟩⟩
      · rw [of_decide_eq_true h0] at key; exact key
      · rw [of_decide_eq_true h0] at key; exact key
      · rw [h0] at key; exact key

theorem nilq_ok {t : TypeId} {a b : AVal El} {va vb : Value} {r : Bool} (ha : Rep c.L I w E a va) (hb : Rep c.L I w E b vb) (h : nilq c t a b = some r) (x y : Operand) :
    ∃ q : Bool, (r = false → q = false) ∧ ((do eqGuard .eql t x y va vb; binOp .eql t va vb) : Sem Value).run c.P w = .ok (.bool q) w ∧
    ((do eqGuard .neq t x y va vb; binOp .neq t va vb) : Sem Value).run c.P w = .ok (.bool (!q)) w := by
  unfold nilq at h
  split at h
  · split at h
    · rename_i hs
      unfold isSliceT at hs
      split at hs
      · rename_i e hu
        simp only [Option.some.injEq] at h; subst h
        cases hb
        cases ha with
        | listNil => exact ⟨_, fun h => by simp at h, run_eq_of (run_equal_slice_nil w t e _ _ _ hu) (fun op x y => by cases op <;> rfl) rfl rfl x y⟩
        | list => exact ⟨_, fun _ => rfl, run_eq_of (run_equal_slice_nil w t e _ _ _ hu) (fun op x y => by cases op <;> rfl) rfl rfl x y⟩
      · cases hs
    · cases h
  · cases h

theorem aBin_ok {op : BinOp} {t : TypeId} {a b r : AVal El} {va vb : Value} (ha : Rep c.L I w E a va) (hb : Rep c.L I w E b vb) (ho : (aBin c op t a b).Out r) (x y : Operand) :
    ∃ v, ((do eqGuard op t x y va vb; binOp op t va vb) : Sem Value).run c.P w = .ok v w ∧ Rep c.L I w E r v := by
  unfold aBin at ho
  split at ho
  · rename_i k n k' m
    cases ha; cases hb
    rw [show ∀ s : Sem Value, (do eqGuard op t x y (.int k n) (.int k' m); s) = s from fun s => by rw [eqGuard_at_int]; rfl]
    split at ho
    · simp only [Tree.Out] at ho
      obtain ⟨h0, rfl⟩ := ho
      exact ⟨.int k (k.wrap (n * 2 ^ (min m.toNat k.bits))), by rw [binOp_shl]; simp [Op.shift, Int.not_lt.2 h0], .int⟩
    · simp only [Tree.Out] at ho
      obtain ⟨h0, rfl⟩ := ho
      exact ⟨.int k (n.fdiv (2 ^ (min m.toNat k.bits))), by rw [binOp_shr]; simp [Op.shift, Int.not_lt.2 h0], .int⟩
    · split at ho
      · rename_i hk
        subst hk
        exact remT_ok ho t
      · exact ho.elim
    · split at ho
      · rename_i hk
        subst hk
        exact aint_ok ho t
      · exact ho.elim
  · split at ho
    · split at ho
      · rename_i r' hr
        simp only [Tree.Out] at ho; subst ho
        exact ⟨_, (aeq_ok ha hb hr x y).1, .bool⟩
      · split at ho
        · rename_i e hq
          obtain ⟨q, g1, g2, g3⟩ := nilq_ok ha hb hq x y
          simp only [Tree.Out] at ho
          rcases ho with ⟨he, rfl⟩ | ⟨he, rfl⟩
          · exact ⟨_, g2, .anyb⟩
          · rw [g1 he] at g2; exact ⟨_, g2, .bool⟩
        · exact ho.elim
    · split at ho
      · rename_i r' hr
        simp only [Tree.Out] at ho; subst ho
        exact ⟨_, (aeq_ok ha hb hr x y).2, .bool⟩
      · split at ho
        · rename_i e hq
          obtain ⟨q, g1, g2, g3⟩ := nilq_ok ha hb hq x y
          simp only [Tree.Out] at ho
          rcases ho with ⟨he, rfl⟩ | ⟨he, rfl⟩
          · exact ⟨_, g3, .anyb⟩
          · rw [g1 he] at g3; exact ⟨_, g3, .bool⟩
        · exact ho.elim
    · exact ho.elim

theorem aUn_ok {op : UnOp} {a r : AVal El} {va : Value} (ha : Rep c.L I w E a va) (ho : (aUn op a).Out r) : ∃ v, (Op.unary op va).run c.P w = .ok v w ∧ Rep c.L I w E r v := by
  unfold aUn at ho
  split at ho
  · simp only [Tree.Out] at ho; subst ho; cases ha
    exact ⟨_, rfl, .bool⟩
  · simp only [Tree.Out] at ho; subst ho; cases ha
    exact ⟨_, rfl, .int⟩
  · exact ho.elim

theorem aConv_ok {src dst : TypeId} {a r : AVal El} {va : Value} (ha : Rep c.L I w E a va) (ho : (aConv c src dst a).Out r) : ∃ v, (convert src dst va).run c.P w = .ok v w ∧ Rep c.L I w E r v := by
  unfold aConv at ho
  split at ho
  · rename_i k' n d k h1 h2
    simp only [Tree.Out] at ho; subst ho; cases ha
    exact ⟨.int k (k.wrap n), by simp [convert, run_underlying h1, run_underlying h2, Conv.intToInt], .int⟩
  · exact ho.elim

theorem aField_ok {s : TypeId} {a r : AVal El} {f : Nat} {va : Value} (ha : Rep c.L I w E a va) (ho : (aField c s a f).Out r) : ∃ v, (Instr.fieldAt s va f).run c.P w = .ok v w ∧ Rep c.L I w E r v := by
  unfold aField at ho
  split at ho
  · rename_i o hf
    have key : ∀ b off, va = .pointer (some ⟨b, off, none⟩) → (Instr.fieldAt s va f).run c.P w = .ok (.pointer (some ⟨b, off + o, none⟩)) w := by
      rintro b off rfl
      unfold fieldOf at hf
      split at hf
      · rename_i fs hu
        split at hf
        · rename_i fl hfl
          split at hf
          · rename_i m hm
            simp only [Option.some.injEq] at hf; subst hf
            have hfl' : fs[f]? = some fl := by simpa using hfl
            simp [Instr.fieldAt, run_underlying hu, hfl', Instr.sureAddr, fieldPlace, info_size hm, Addr.add_lit]
          · cases hf
        · cases hf
      · cases hf
    split at ho <;> simp only [Tree.Out] at ho
    · subst ho; cases ha with
      | ptr he => exact ⟨_, key _ _ rfl, .ptr he⟩
    · subst ho; cases ha with
      | eptr he => exact ⟨_, key _ _ rfl, by rw [Nat.add_assoc]; exact .eptr he⟩
    · subst ho; cases ha with
      | lptr h1 h2 h3 h4 h5 h6 => exact ⟨_, key _ _ rfl, by rw [Nat.add_assoc _ _ o]; exact .lptr h1 h2 h3 h4 h5 h6⟩
  · exact ho.elim

theorem splitIdx_out {X : Type} {i : Int} {f : Nat → Tree X} {n j : Nat} {x : X} (ho : (splitIdx i f n j).Out x) : ∃ m : Nat, j ≤ m ∧ m < j + n ∧ i = m ∧ (f m).Out x := by
  induction n generalizing j with
  | zero => exact ho.elim
  | succ n ih =>
    rcases ho with ⟨hb, ho⟩ | ⟨hb, ho⟩
    · exact ⟨j, Nat.le_refl _, by omega, of_decide_eq_true hb, ho⟩
    · obtain ⟨m, h1, h2, h3, h4⟩ := ih ho
      exact ⟨m, by omega, by omega, h3, h4⟩

theorem aIndexAddr_ok (h : HR c.L I w E R) {t : TypeId} {a ix r : AVal El} {va vx : Value} (ha : Rep c.L I w E a va) (hx : Rep c.L I w E ix vx) (ho : (aIndexAddr c R t a ix).Out r) :
    ∃ v, (Instr.indexAt t va vx).run c.P w = .ok v w ∧ Rep c.L I w E r v := by
  unfold aIndexAddr at ho
  split at ho
  · rename_i k i n e hu
    cases hx
    split at ho
    · rename_i r' off s hs
      obtain ⟨m, _, hm, hmi, ho'⟩ := splitIdx_out ho
      subst hmi
      clear ho
      have ho := ho'
      clear ho'
      simp only [Tree.Out] at ho; subst ho
      cases ha with
      | ptr he =>
        refine ⟨_, ?_, .ptr he⟩
        have : m < n := by omega
        simp [Instr.indexAt, run_underlying hu, asIntOf, Instr.sureAddr, this, info_size hs, Addr.add_lit]
    · exact ho.elim
  · rename_i k i e hu
    cases hx
    split at ho
    · rename_i t' xs
      split at ho
      · rename_i hk
        obtain ⟨rfl, hk⟩ := hk
        simp only [Tree.Out] at ho
        obtain ⟨⟨h0, hlt⟩, rfl⟩ := ho
        have hsz := (c.known_ok _ hk).1
        cases ha with
        | listNil => simp at hlt; omega
        | list hI hb hlen hcap vals hc hrep =>
          rename_i b o len cap cells ty fz
          subst hlen
          refine ⟨_, ?_, .lptr (by omega) hI hb vals hc hrep⟩
          simp [Instr.indexAt, run_underlying hu, asIntOf, h0, hlt, info_size hsz, Addr.add_lit]
      · exact ho.elim
    · rename_i r'
      split at ho
      · rename_i t' xs hg
        split at ho
        · rename_i hk
          obtain ⟨rfl, hk⟩ := hk
          simp only [Tree.Out] at ho
          obtain ⟨⟨h0, hlt⟩, rfl⟩ := ho
          have hsz := (c.known_ok _ hk).1
          obtain ⟨e, h1, h2⟩ := h.res r' (by rw [hg]; simp)
          rw [hg] at h2
          cases ha with
          | vec he hone =>
            rw [h1] at he; cases he
            rcases h2 with ⟨_, rfl, _⟩ | ⟨b', cap, cells, vals, k1, k2, k3, k4, k5, k6, k7⟩
            · simp at hlt; omega
            · rw [k2]
              obtain ⟨blk, raw⟩ := e
              simp only at k1 k2
              subst k1
              refine ⟨_, ?_, .eptr h1⟩
              simp [Instr.indexAt, run_underlying hu, asIntOf, h0, hlt, info_size hsz, Addr.add_lit]
        · exact ho.elim
      · exact ho.elim
    · rename_i r' off n
      split at ho
      · rename_i s hs
        obtain ⟨m, _, hm, hmi, ho'⟩ := splitIdx_out ho
        subst hmi
        clear ho
        have ho := ho'
        clear ho'
        simp only [Tree.Out] at ho; subst ho
        cases ha with
        | cs he =>
          refine ⟨_, ?_, .ptr he⟩
          have : m < n := by omega
          simp [Instr.indexAt, run_underlying hu, asIntOf, this, info_size hs, Addr.add_lit]
      · exact ho.elim
    · exact ho.elim
  · exact ho.elim

theorem aPart_ok {t : TypeId} {cs : List (AVal El)} {vs : List Value} {off : Nat} {x : AVal El} (hr : Reps c.L I w E cs vs) (h1 : ∀ v ∈ vs, v.oneCell' = true) (ho : (aPart c t (dropF off cs)).Out x) :
    ∃ u, (part t vs.toArray off).run c.P w = .ok u w ∧ Rep c.L I w E x u := by
  rw [dropF_eq] at ho
  unfold aPart at ho
  split at ho
  · rename_i n hagg hn
    split at ho
    · rename_i l hl
      simp only [Tree.Out] at ho; subst ho
      obtain ⟨rfl, hle⟩ := takeF_some hl
      refine ⟨.agg ((vs.drop off).take n).toArray, ?_, ((hr.drop off).take n).agg (fun v hv => h1 v (List.mem_of_mem_drop (List.mem_of_mem_take hv)))⟩
      simp [part, run_isAggT hagg, info_size hn, List.extract_eq_take_drop]
    · exact ho.elim
  · rename_i n hagg hn
    split at ho
    · rename_i a' rest hd
      simp only [Tree.Out] at ho; subst ho
      have hdr := hr.drop off
      rw [hd] at hdr
      obtain ⟨u, us, hu, g1, g2⟩ := hdr.inv_cons
      refine ⟨u, ?_, g1⟩
      have : vs[off]? = some u := by
        have : (vs.drop off)[0]? = some u := by rw [hu]; rfl
        simpa using this
      simp [part, run_isAggT hagg, this]
    · exact ho.elim
  · exact ho.elim

theorem aFieldV_ok {t : TypeId} {a r : AVal El} {f : Nat} {va : Value} (ha : Rep c.L I w E a va) (ho : (aFieldV c t a f).Out r) :
    ∃ v, (Instr.field t va f).run c.P w = .ok v w ∧ Rep c.L I w E r v := by
  unfold aFieldV at ho
  split at ho
  · rename_i fs cs hu
    cases ha with
    | agg hl hh h1 =>
      rename_i vs
      split at ho
      · rename_i fl hfl
        obtain ⟨u, g1, g2⟩ := aPart_ok ⟨hl, hh⟩ h1 ho
        have hfl' : fs[f]? = some fl := by simpa using hfl
        refine ⟨u, ?_, g2⟩
        simp [Instr.field, run_underlying hu, hfl', asAgg, g1]
      · exact ho.elim
  · exact ho.elim
theorem aIndex_ok {t : TypeId} {a ix r : AVal El} {va vx : Value} (ha : Rep c.L I w E a va) (hx : Rep c.L I w E ix vx) (ho : (aIndex c t a ix).Out r) :
    ∃ v, (Instr.index t va vx).run c.P w = .ok v w ∧ Rep c.L I w E r v := by
  unfold aIndex at ho
  split at ho
  · rename_i k i n e cs hu
    cases hx
    cases ha with
    | agg hl hh h1 =>
      rename_i vs
      split at ho
      · rename_i s hs
        obtain ⟨m, _, hm, hmi, ho'⟩ := splitIdx_out ho
        subst hmi
        clear ho
        have ho := ho'
        clear ho'
        obtain ⟨u, g1, g2⟩ := aPart_ok ⟨hl, hh⟩ h1 ho
        refine ⟨u, ?_, g2⟩
        have : m < n := by omega
        simp [Instr.index, run_underlying hu, asIntOf, this, info_size hs, g1]
      · exact ho.elim
  · exact ho.elim
end proofs
end Go.Ax
end

/- A verified symbolic executor, part 6: composite values, slices that are cut, made, appended to, and measured. Over any program; the facts on its types are given with it. -/
section
set_option linter.unusedVariables false
set_option linter.unusedSimpArgs false
namespace Go.Ax
variable {El : TypeId → Type}

section defs
variable (c : Cx El) (R : List (Res El))

/-- Parts written over cells. -/
def aFill (place : Nat → Option (Nat × Nat)) (cs : List (AVal El)) : List (Nat × AVal El) → Option (List (AVal El))
  | [] => some cs
  | (i, v) :: rest => match place i, cellsOf v with
    | some (off, size), some ds => if ds.length = size then match putF cs off ds with
        | some cs' => aFill place cs' rest
        | none => none
      else none
    | _, _ => none

def placesOf : List Field → Option (List (Nat × Nat))
  | [] => some []
  | f :: fs => match (c.P.info? f.type).map (·.size), placesOf fs with
    | some n, some l => some ((f.offset, n) :: l)
    | _, _ => none

def aBuild (t : TypeId) (parts : List (Nat × AVal El)) : Tree (AVal El) :=
  match (c.P.info? t).bind (·.zero), c.P.underlying t with
  | some z, some (.struct fs) => match absL z.cells.toList, placesOf c fs.toList with
    | some cs, some pl => match aFill (pl[·]?) cs parts with
      | some r => .leaf (.agg r)
      | none => .fail
    | _, _ => .fail
  | some z, some (.array _ e) => match absL z.cells.toList, (c.P.info? e).map (·.size) with
    | some cs, some s => match aFill (fun i => some (i * s, s)) cs parts with
      | some r => .leaf (.agg r)
      | none => .fail
    | _, _ => .fail
  | _, _ => .fail

/-- Cells, element by element. -/
def decAll (L : Lay El) (t : TypeId) : Nat → List (AVal El) → Option (List (El t))
  | 0, [] => some []
  | 0, _ :: _ => none
  | n + 1, cs => match takeF (L.sz t) cs with
    | some l => match L.dec t l, decAll L t n (dropF (L.sz t) cs) with
      | some x, some xs => some (x :: xs)
      | _, _ => none
    | none => none

def topsF : Nat → List (AVal El)
  | 0 => []
  | n + 1 => .top :: topsF n

def aBuildSlice (base : Nat) (t : TypeId) (len : Nat) (parts : List (Nat × AVal El)) : Tree (Eff El) :=
  match c.P.underlying t with
  | some (.slice e) => if c.known e = true ∧ c.dt e = true ∧ len * c.L.sz e ≤ 16777216 then
      match aFill (fun i => some (i * c.L.sz e, c.L.sz e)) (topsF (len * c.L.sz e)) parts with
      | some cs => match decAll c.L e len cs with
        | some xs => .leaf (.vec base, [(base, .vec e xs)])
        | none => .fail
      | none => .fail
    else .fail
  | _ => .fail

/-- A slice value as a list that never changes; a slice of the run's own is given up for good. -/
def asList (x : AVal El) : Option ((t : TypeId) × List (El t) × List (Nat × Res El)) :=
  match x with
  | .list t xs => some ⟨t, xs, []⟩
  | .vec r => match getR R r with
    | .vec t xs => some ⟨t, xs, [(r, .dead)]⟩
    | _ => none
  | _ => none

def bndO : Option (AVal El) → Option (Option Int)
  | none => some none
  | some (.int _ n) => some (some n)
  | some _ => none

def aSlice (t : TypeId) (x : AVal El) (lo hi mx : Option (AVal El)) : Tree (Eff El) :=
  match c.P.underlying t with
  | some (.slice e) => match asList R x with
    | some ⟨t', xs, upd⟩ => if t' = e ∧ c.known e = true then
        match bndO lo, bndO hi, bndO mx with
        | some none, some none, some none => .leaf (.list t' xs, upd)
        | some (some l), some none, some none => .need (0 ≤ l ∧ l ≤ xs.length) (.leaf (.list t' (xs.drop l.toNat), upd))
        | some none, some (some h), some none => .need (0 ≤ h ∧ h ≤ xs.length) (.leaf (.list t' (xs.take h.toNat), upd))
        | some (some l), some (some h), some none => .need (0 ≤ l ∧ l ≤ h ∧ h ≤ xs.length) (.leaf (.list t' ((xs.take h.toNat).drop l.toNat), upd))
        | some none, some (some h), some (some m) => .need (0 ≤ h ∧ h ≤ m ∧ m ≤ xs.length) (.leaf (.list t' (xs.take h.toNat), upd))
        | some (some l), some (some h), some (some m) => .need (0 ≤ l ∧ l ≤ h ∧ h ≤ m ∧ m ≤ xs.length) (.leaf (.list t' ((xs.take h.toNat).drop l.toNat), upd))
        | _, _, _ => .fail
      else .fail
    | none => .fail
  | some (.array n e) => match x, lo, hi, mx with
    | .ptr r off, none, none, none => if (c.P.info? e).isSome = true then .leaf (.cs r off n, []) else .fail
    | _, _, _, _ => .fail
  | _ => .fail

def aLen (t : TypeId) (x : AVal El) : Tree (AVal El) :=
  match c.P.underlying t with
  | some (.array n _) => .leaf (.int .i64 n)
  | some (.slice _) => match x with
    | .list _ xs => .leaf (.int .i64 xs.length)
    | .nils => .leaf (.int .i64 0)
    | .cs _ _ n => .leaf (.int .i64 n)
    | .vec r => match getR R r with
      | .vec _ xs => .leaf (.int .i64 xs.length)
      | _ => .fail
    | _ => .fail
  | _ => .fail

def aMake (base : Nat) (t : TypeId) (l k : AVal El) : Tree (Eff El) :=
  match l, k, c.P.underlying t with
  | .int _ n, .int _ m, some (.slice e) => match c.P.info? e with
    | some i => if c.known e = true ∧ c.flat e = true then
        .need (0 ≤ n ∧ n = m ∧ (i.bytes : Int) * n ≤ 140737488355328 ∧ n ≤ 140737488355328) (.leaf (.vec base, [(base, .vec e (List.replicate n.toNat (c.L.dflt e)))]))
      else .fail
    | none => .fail
  | _, _, _ => .fail

/-- The source of an append, read only. -/
def srcOf (x : AVal El) : Option ((t : TypeId) × List (El t)) :=
  match x with
  | .list t xs => some ⟨t, xs⟩
  | .vec r => match getR R r with
    | .vec t xs => some ⟨t, xs⟩
    | _ => none
  | _ => none

def aAppend (base : Nat) (sT xT : TypeId) (s x : AVal El) : Tree (Eff El) :=
  match s, c.P.underlying sT, c.P.underlying xT with
  | .vec r, some (.slice e), some (.slice _) => match getR R r, c.P.info? e with
    | .vec t xs, some i => if t = e ∧ c.known e = true ∧ c.dt e = true then
        match srcOf R x with
        | some ⟨t', ys⟩ => if h : t' = t then
            .need ((xs.length + ys.length) * i.bytes ≤ 140737488355328 ∧ xs.length + ys.length ≤ 140737488355328)
              (.leaf (.vec base, [(r, .dead), (base, .vec t (xs ++ (h ▸ ys : List (El t))))]))
          else .fail
        | none => .fail
      else .fail
    | _, _ => .fail
  | _, _, _ => .fail

def aExtract (x : AVal El) (i : Nat) : Tree (AVal El) :=
  match x with
  | .tup vs => match vs[i]? with
    | some v => .leaf v
    | none => .fail
  | _ => .fail
end defs

section proofs
variable {I : Nat → Prop} {E : Env} {R : List (Res El)} {w : World} {c : Cx El} {L : Lay El}

theorem foldl_put (vs : List Value) (us : List Value) (off : Nat) (h : off + us.length ≤ vs.length) :
    (us.zipIdx.foldl (fun (cs : Array Value) (p : Value × Nat) => cs.setIfInBounds (off + p.2) p.1) vs.toArray) = (vs.take off ++ us ++ vs.drop (off + us.length)).toArray := by
  have key : ∀ (us : List Value) (k : Nat) (vs : List Value), off + k + us.length ≤ vs.length →
      ((us.zipIdx k).foldl (fun (cs : Array Value) (p : Value × Nat) => cs.setIfInBounds (off + p.2) p.1) vs.toArray) = (vs.take (off + k) ++ us ++ vs.drop (off + k + us.length)).toArray := by
    intro us
    induction us with
    | nil => intro k vs _; simp
    | cons u us ih =>
      intro k vs h
      simp only [List.zipIdx_cons, List.foldl_cons]
      rw [List.setIfInBounds_toArray, ih (k + 1) (vs.set (off + k) u) (by simp at h ⊢; omega)]
      congr 1
      have := list_seg_step vs (off + k) u us (by simp at h ⊢; omega)
      simpa [Nat.add_assoc] using this
  simpa using key us 0 vs (by simpa using h)

/-- Parts and their values, one by one. -/
def PartsRep (L : Lay El) (I : Nat → Prop) (w : World) (E : Env) : List (Nat × AVal El) → List (Nat × Value) → Prop
  | [], [] => True
  | (i, a) :: ps, (j, v) :: qs => i = j ∧ Rep L I w E a v ∧ PartsRep L I w E ps qs
  | _, _ => False

theorem aFill_ok {place : Nat → Option (Nat × Nat)} {parts : List (Nat × AVal El)} {pv : List (Nat × Value)} {cs r : List (AVal El)} {vs : List Value} (hp : PartsRep L I w E parts pv)
    (ho : aFill place cs parts = some r) (hr : Reps L I w E cs vs) (h1 : ∀ v ∈ vs, v.oneCell' = true) :
    ∃ us, Instr.fill place vs.toArray pv = some us.toArray ∧ Reps L I w E r us ∧ (∀ v ∈ us, v.oneCell' = true) := by
  induction parts generalizing pv cs vs with
  | nil =>
    cases pv with
    | nil => simp [aFill] at ho; subst ho; exact ⟨vs, rfl, hr, h1⟩
    | cons q qs => exact hp.elim
  | cons p ps ih =>
    obtain ⟨i, a⟩ := p
    cases pv with
    | nil => exact hp.elim
    | cons q qs =>
      obtain ⟨j, v⟩ := q
      obtain ⟨rfl, ha, hps⟩ := hp
      simp only [aFill] at ho
      split at ho
      · rename_i off size ds hpl hds
        split at ho
        · rename_i hlen
          split at ho
          · rename_i cs' hput
            obtain ⟨rfl, hle⟩ := putF_some hput
            obtain ⟨us, g1, g2, g3⟩ := ha.cells_of hds
            have hsz : v.cells.size = size := by rw [g1, ← hlen]; simpa using g2.len.symm
            have hle' : off + us.length ≤ vs.length := by rw [← g2.len, ← hr.len]; exact hle
            obtain ⟨us', k1, k2, k3⟩ := ih hps ho (splice_reps hr g2 off) (one_splice h1 g3 _ _)
            refine ⟨us', ?_, k2, k3⟩
            simp only [Instr.fill, hpl]
            rw [if_neg (by rw [hsz]; simp; rw [g1] at hsz; simp at hsz; omega), g1]
            have hz : us.toArray.zipIdx.foldl (fun (cs : Array Value) (p : Value × Nat) => cs.setIfInBounds (off + p.2) p.1) vs.toArray = (vs.take off ++ us ++ vs.drop (off + us.length)).toArray := by
              rw [← foldl_put vs us off hle']
              rw [← Array.foldl_toList, Array.toList_zipIdx]
            rw [← k1]
            congr 1
          · cases ho
        · cases ho
      · cases ho

theorem placesOf_ok {fs : List Field} {pl : List (Nat × Nat)} (h : placesOf c fs = some pl) : fs.mapM (fun f => (c.P.info? f.type).map fun i => (f.offset, i.size)) = some pl := by
  induction fs generalizing pl with
  | nil => simp [placesOf] at h; subst h; simp
  | cons f fs ih =>
    simp only [placesOf] at h
    split at h
    · rename_i n l h1 h2
      simp only [Option.some.injEq] at h; subst h
      cases hi : c.P.info? f.type with
      | none => simp [hi] at h1
      | some i => simp [hi] at h1; simp [hi, ih h2, h1]
    · cases h

theorem aBuild_ok {t : TypeId} {parts : List (Nat × AVal El)} {pv : List (Nat × Value)} {r : AVal El} (hp : PartsRep c.L I w E parts pv) (ho : (aBuild c t parts).Out r) :
    ∃ v, (Instr.build t pv.toArray).run c.P w = .ok v w ∧ Rep c.L I w E r v := by
  unfold aBuild at ho
  split at ho
  · rename_i z fs hz hu
    split at ho
    · rename_i cs pl hcs hpl
      split at ho
      · rename_i r' hf
        simp only [Tree.Out] at ho; subst ho
        obtain ⟨k1, k2⟩ := absL_ok (L := c.L) (I := I) (w := w) (E := E) hcs
        obtain ⟨us, g1, g2, g3⟩ := aFill_ok hp hf k1 k2
        refine ⟨.agg us.toArray, ?_, g2.agg g3⟩
        refine run_build w t pv.toArray us.toArray ?_
        have hp' := placesOf_ok hpl
        cases hi : c.P.info? t with
        | none => simp [hi] at hz
        | some i =>
          simp [hi] at hz
          simp only [Program.built, hi, hu, hz, hp']
          simpa using g1
      · exact ho.elim
    · exact ho.elim
  · rename_i z n e hz hu
    split at ho
    · rename_i cs s hcs hs
      split at ho
      · rename_i r' hf
        simp only [Tree.Out] at ho; subst ho
        obtain ⟨k1, k2⟩ := absL_ok (L := c.L) (I := I) (w := w) (E := E) hcs
        obtain ⟨us, g1, g2, g3⟩ := aFill_ok hp hf k1 k2
        refine ⟨.agg us.toArray, ?_, g2.agg g3⟩
        refine run_build w t pv.toArray us.toArray ?_
        cases hi : c.P.info? t with
        | none => simp [hi] at hz
        | some i =>
          cases hie : c.P.info? e with
          | none => simp [hie] at hs
          | some ie =>
            simp [hi] at hz
            simp [hie] at hs
            simp only [Program.built, hi, hu, hz, hie, hs]
            simpa using g1
      · exact ho.elim
    · exact ho.elim
  · exact ho.elim

theorem aLen_ok (h : HR c.L I w E R) {t ty : TypeId} {x r : AVal El} {v : Value} (hx : Rep c.L I w E x v) (ho : (aLen c R t x).Out r) :
    ∃ u, (Builtin.len_ #[t] ty #[v]).run c.P w = .ok u w ∧ Rep c.L I w E r u := by
  unfold aLen at ho
  split at ho
  · rename_i n e hu
    simp only [Tree.Out] at ho; subst ho
    exact ⟨_, by simp [Builtin.len_, run_underlying hu]; rfl, .int⟩
  · rename_i e hu
    split at ho
    · simp only [Tree.Out] at ho; subst ho
      cases hx with
      | listNil => exact ⟨_, by simp [Builtin.len_, run_underlying hu]; rfl, .int⟩
      | list h1 h2 h3 => subst h3; exact ⟨_, by simp [Builtin.len_, run_underlying hu]; rfl, .int⟩
    · simp only [Tree.Out] at ho; subst ho; cases hx
      exact ⟨_, by simp [Builtin.len_, run_underlying hu]; rfl, .int⟩
    · simp only [Tree.Out] at ho; subst ho; cases hx
      exact ⟨_, by simp [Builtin.len_, run_underlying hu]; rfl, .int⟩
    · rename_i r'
      split at ho
      · rename_i t' xs hg
        simp only [Tree.Out] at ho; subst ho
        obtain ⟨e', h1, h2⟩ := h.res r' (by rw [hg]; simp)
        rw [hg] at h2
        cases hx with
        | vec he hone =>
          rw [h1] at he; cases he
          rcases h2 with ⟨_, rfl, a, k⟩ | ⟨b', cap, cells, vals, k1, k, _⟩
          · rw [k]; exact ⟨_, by simp [Builtin.len_, run_underlying hu]; rfl, .int⟩
          · rw [k]; exact ⟨_, by simp [Builtin.len_, run_underlying hu]; rfl, .int⟩
      · exact ho.elim
    · exact ho.elim
  · exact ho.elim

theorem aExtract_ok {x r : AVal El} {v : Value} {i : Nat} (hx : Rep L I w E x v) (ho : (aExtract x i).Out r) : ∃ u, (Instr.extract v i).run c.P w = .ok u w ∧ Rep L I w E r u := by
  unfold aExtract at ho
  split at ho
  · rename_i vs
    split at ho
    · rename_i a ha
      simp only [Tree.Out] at ho; subst ho
      cases hx with
      | tup hl hh =>
        rename_i us
        have hi : i < us.length := by
          rcases Nat.lt_or_ge i vs.length with h' | h'
          · omega
          · rw [List.getElem?_eq_none h'] at ha; cases ha
        exact ⟨us[i], by simp [Instr.extract, hi], hh i a _ ha (List.getElem?_eq_getElem hi)⟩
    · exact ho.elim
  · exact ho.elim
end proofs
end Go.Ax
end

/- A verified symbolic executor, part 7: slices that are cut, made, written out, and appended to. Over any program; the facts on its types are given with it. -/
section
set_option linter.unusedVariables false
set_option linter.unusedSimpArgs false
namespace Go.Ax
variable {El : TypeId → Type}
section proofs
variable {I : Nat → Prop} {E : Env} {R : List (Res El)} {w w' : World} {c : Cx El} {L : Lay El}

/-- A resource under a new name, in a block that is nobody's. -/
theorem HR.add0 (h : HR L I w E R) {base : Nat} (hb : E base = none) (e : REnv) (x : Res El) (hsame : ∀ k, Own E R k ∨ I k → w'.heap[k]? = w.heap[k]?) (hsize : w.heap.size ≤ w'.heap.size)
    (hx : HRes L I w' (E.put base e) e x) (hn : ∀ b, e.blk = some b → ¬ Own E R b ∧ ¬ I b) : HR L I w' (E.put base e) (setR R base x) := by
  have hle := Env.le_put (e := e) hb
  refine ⟨?_, ?_, ?_, fun k hk => Nat.lt_of_lt_of_le (h.old k hk) hsize⟩
  · intro r hr
    rw [getR_setR] at hr ⊢
    by_cases hrb : r = base
    · rw [if_pos hrb]; subst hrb
      exact ⟨e, Env.put_same _ _ _, hx⟩
    · rw [if_neg hrb] at hr ⊢
      obtain ⟨e', h1, h2⟩ := h.res r hr
      exact ⟨e', hle _ _ h1, h2.keep (fun _ h => h) (fun b hb => hsame b (.inr hb)) hle (fun b hb' _ => hsame b (.inl ⟨r, e', hr, h1, hb'⟩))⟩
  · intro r r' e1 e2 b h1 h2 h3 h4 h5 h6
    rw [getR_setR] at h1 h2
    by_cases hr : r = base
    · by_cases hr' : r' = base
      · exact hr.trans hr'.symm
      · rw [if_neg hr'] at h2
        rw [Env.put_ne E e hr'] at h4
        subst hr
        rw [Env.put_same] at h3; cases h3
        exact absurd ⟨r', e2, h2, h4, h6⟩ (hn b h5).1
    · by_cases hr' : r' = base
      · rw [if_neg hr] at h1
        rw [Env.put_ne E e hr] at h3
        subst hr'
        rw [Env.put_same] at h4; cases h4
        exact absurd ⟨r, e1, h1, h3, h5⟩ (hn b h6).1
      · rw [if_neg hr] at h1
        rw [if_neg hr'] at h2
        rw [Env.put_ne E e hr] at h3
        rw [Env.put_ne E e hr'] at h4
        exact h.apart r r' e1 e2 b h1 h2 h3 h4 h5 h6
  · rintro b ⟨r, e', h1, h2, h3⟩ hI
    rw [getR_setR] at h1
    by_cases hr : r = base
    · subst hr
      rw [Env.put_same] at h2; cases h2
      exact (hn b h3).2 hI
    · rw [if_neg hr] at h1
      rw [Env.put_ne E e hr] at h2
      exact h.notI b ⟨r, e', h1, h2, h3⟩ hI

/-- A new slice of the run's own, in a new block. -/
theorem HR.addVec (h : HR c.L I w E R) {base : Nat} (hb : E base = none) (t : TypeId) (xs : List (El t)) (cap : Nat) (cells : Array Value) (hcap : xs.length ≤ cap) (hsz : cells.size = cap * c.L.sz t)
    (vals : Nat → Nat → Value) (hc : ∀ i j, i < xs.length → j < c.L.sz t → cells[i * c.L.sz t + j]? = some (vals i j) ∧ (vals i j).oneCell' = true)
    (hr : ∀ i x, xs[i]? = some x → ∀ j a, (c.L.enc t x)[j]? = some a → Rep c.L I w noE a (vals i j)) {w1 : World} (hw : Fr (fun _ => False) w w1) :
    Post c.L I E R w base [(base, .vec t xs)] (.vec base) (.slice (some ⟨w1.heap.size, 0, none⟩) xs.length cap) (w1.alloc (.cells cells t)) I (E.put base ⟨some w1.heap.size, .slice (some ⟨w1.heap.size, 0, none⟩) xs.length cap⟩) := by
  have hf : Fr (fun _ => False) w (w1.alloc (.cells cells t)) := hw.trans (Fr.alloc w1 _) (fun _ h => h.elim)
  have hnew := heap_alloc_new w1 (.cells cells t)
  obtain ⟨g1, g2⟩ := h.add hb ⟨some w1.heap.size, .slice (some ⟨w1.heap.size, 0, none⟩) xs.length cap⟩ (.vec t xs) hf
    (.inr ⟨w1.heap.size, cap, cells, vals, rfl, rfl, hcap, hnew, hsz, hc, fun i x hx j a ha => (hr i x hx j a ha).mono (fun _ h => h) (fun b hb => hf.block b (h.old b hb) id) (Env.le_refl _)⟩)
    (fun b hb => by cases hb; exact hw.size)
  exact ⟨g2, g1, .vec (Env.put_same _ _ _) rfl, fun r hr => Env.put_ne _ _ (fun e => absurd (hr (.vec t xs) (by rw [e]; simp)) (by omega))⟩

theorem decAll_ok {t : TypeId} {n : Nat} {cs : List (AVal El)} {xs : List (El t)} (h : decAll L t n cs = some xs) :
    xs.length = n ∧ cs.length = n * L.sz t ∧ ∀ i x, xs[i]? = some x → ∀ j, j < L.sz t → (L.enc t x)[j]? = cs[i * L.sz t + j]? := by
  induction n generalizing cs xs with
  | zero =>
    cases cs with
    | nil => simp [decAll] at h; subst h; simp
    | cons a cs => simp [decAll] at h
  | succ n ih =>
    simp only [decAll] at h
    split at h
    · rename_i l hl
      split at h
      · rename_i x xs' hx hxs
        simp only [Option.some.injEq] at h; subst h
        obtain ⟨rfl, hle⟩ := takeF_some hl
        rw [dropF_eq] at hxs
        obtain ⟨h1, h2, h3⟩ := ih hxs
        refine ⟨by simp [h1], ?_, ?_⟩
        · rw [Nat.succ_mul]; simp at h2; omega
        · intro i y hy j hj
          cases i with
          | zero =>
            simp at hy; subst hy
            rw [L.dec_enc _ _ _ hx, List.getElem?_take, if_pos hj]
            simp
          | succ i =>
            simp at hy
            rw [h3 i y hy j hj, List.getElem?_drop, Nat.succ_mul]
            congr 1
            omega
      · cases h
    · cases h

theorem topsF_reps (n : Nat) (vs : List Value) (h : vs.length = n) : Reps L I w E (topsF n : List (AVal El)) vs := by
  induction n generalizing vs with
  | zero =>
    cases vs with
    | nil => exact Reps.nil
    | cons v vs => simp at h
  | succ n ih =>
    cases vs with
    | nil => simp at h
    | cons v vs => exact Reps.cons .top (ih vs (by simpa using h))

theorem zero_of (c : Cx El) {t : TypeId} (hk : c.known t = true) : ∃ i z, c.P.info? t = some i ∧ i.zero = some z ∧ i.size = c.L.sz t ∧ z.cells.size = c.L.sz t ∧ 0 < c.L.sz t ∧
    ∀ k : Nat, k < c.L.sz t → ∃ v, z.cells[k]? = some v ∧ v.oneCell' = true ∧ ∀ (I : Nat → Prop) (w : World) (a : AVal El), (c.L.enc t (c.L.dflt t))[k]? = some a → Rep c.L I w noE a v := by
  obtain ⟨h1, h2⟩ := c.known_ok t hk
  obtain ⟨z, h3, h4, h5⟩ := c.zero_ok t hk
  cases hi : c.P.info? t with
  | none => simp [hi] at h1
  | some i =>
    simp [hi] at h1 h3
    exact ⟨i, z, rfl, h3, h1, h4, h2, h5⟩

theorem aBuildSlice_ok (h : HR c.L I w E R) {base : Nat} (hb : E base = none) {t : TypeId} {len : Nat} {parts : List (Nat × AVal El)} {pv : List (Nat × Value)} {y : Eff El} (hp : PartsRep c.L I w E parts pv)
    (ho : (aBuildSlice c base t len parts).Out y) : ∃ u w' I' E', (Instr.buildSlice t len pv.toArray).run c.P w = .ok u w' ∧ Post c.L I E R w base y.2 y.1 u w' I' E' := by
  unfold aBuildSlice at ho
  split at ho
  · rename_i e hu
    split at ho
    · rename_i hk
      obtain ⟨hk, hfl, hsmall⟩ := hk
      split at ho
      · rename_i cs hfill
        split at ho
        · rename_i xs hdec
          simp only [Tree.Out] at ho; subst ho
          obtain ⟨i, z, hi, hz, his, hzs, hpos, hzc⟩ := zero_of c hk
          have hzero : ∀ k : Nat, z.cells[k % z.cells.size]! ∈ z.cells.toList := by
            intro k
            have : k % z.cells.size < z.cells.size := Nat.mod_lt _ (by rw [hzs]; exact hpos)
            rw [getElem!_pos z.cells _ this]
            simp
          have hzone : ∀ v ∈ z.cells.toList, v.oneCell' = true := by
            intro v hv
            obtain ⟨k, hk'⟩ := List.mem_iff_getElem?.1 hv
            have hlt : k < c.L.sz e := by
              rcases Nat.lt_or_ge k z.cells.toList.length with h' | h'
              · simpa [hzs] using h'
              · rw [List.getElem?_eq_none h'] at hk'; cases hk'
            obtain ⟨v', g1, g2, _⟩ := hzc k hlt
            rw [Array.getElem?_toList, g1] at hk'; cases hk'
            exact g2
          obtain ⟨us, k1, k2, k3⟩ := aFill_ok hp hfill (topsF_reps (L := c.L) (I := I) (w := w) (E := E) (len * c.L.sz e) ((List.range (len * c.L.sz e)).map (fun k => z.cells[k % z.cells.size]!)) (by simp))
            (fun v hv => by
              obtain ⟨k, _, rfl⟩ := List.mem_map.1 hv
              exact hzone _ (hzero k))
          obtain ⟨d1, d2, d3⟩ := decAll_ok hdec
          have hus : us.length = len * c.L.sz e := by rw [← k2.len, d2]
          have hpost := h.addVec (w1 := w) hb e xs len us.toArray (by omega) (by simpa using hus) (fun i j => us.getD (i * c.L.sz e + j) undef)
            (by
              intro i j hi' hj
              have hlt : i * c.L.sz e + j < us.length := by
                rw [hus]
                have : (i + 1) * c.L.sz e ≤ len * c.L.sz e := Nat.mul_le_mul_right _ (by omega)
                rw [Nat.succ_mul] at this; omega
              rw [List.getElem?_toArray, List.getD_eq_getElem?_getD, List.getElem?_eq_getElem hlt]
              exact ⟨rfl, k3 _ (List.getElem_mem hlt)⟩)
            (by
              intro i x hx j a ha
              have hj : j < c.L.sz e := by
                rcases Nat.lt_or_ge j (c.L.enc e x).length with h' | h'
                · rw [c.L.enc_len] at h'; exact h'
                · rw [List.getElem?_eq_none h'] at ha; cases ha
              have hfa := c.dt_at hfl x ha
              rw [d3 i x hx j hj] at ha
              have hrep := k2.getD (i * c.L.sz e + j) undef
              rw [nth_eq, List.getD_eq_getElem?_getD, ha] at hrep
              exact hrep.dat hfa)
            (Fr.refl _ _)
          refine ⟨_, _, _, _, ?_, hpost⟩
          have hfill' : Instr.fill (fun i => some (i * c.L.sz e, c.L.sz e)) ((Array.range (len * c.L.sz e)).map (fun k => z.cells[k % z.cells.size]!)) pv = some us.toArray := by
            rw [← k1]
            congr 1
            apply Array.ext'
            simp
          by_cases h0 : len * c.L.sz e = 0
          · have hfill0 : Instr.fill (fun i => some (i * c.L.sz e, c.L.sz e)) ((Array.range (len * c.L.sz e)).map (fun k => (#[] : Array Value)[k % (#[] : Array Value).size]!)) pv = some us.toArray := by
              rw [← hfill', h0, Array.range_zero']; simp
            have h24 : ¬ (16777216 < len * c.L.sz e) := by omega
            simp only [Instr.buildSlice, run_underlying hu, sizeOf, typeInfo, hi, his, Sem.run_bind, Sem.run_pure, run_program, Result.andThen_ok, Sem.run_ite, d1]
            rw [if_neg (by simpa using h24), if_pos h0]
            simp only [Sem.run_pure, Result.andThen_ok, hfill0]
            simp [newRow]
          · have h24 : ¬ (16777216 < len * c.L.sz e) := by omega
            simp only [Instr.buildSlice, run_underlying hu, sizeOf, typeInfo, zeroValue, hi, hz, his, Sem.run_bind, Sem.run_pure, run_program, Result.andThen_ok, Sem.run_ite, d1]
            rw [if_neg (by simpa using h24), if_neg h0]
            simp only [Sem.run_pure, Result.andThen_ok, hfill']
            simp [newRow]
        · exact ho.elim
      · exact ho.elim
    · exact ho.elim
  · exact ho.elim

theorem aMake_ok (h : HR c.L I w E R) {base : Nat} (hb : E base = none) {t : TypeId} {l k : AVal El} {vl vk : Value} {y : Eff El} (hl : Rep c.L I w E l vl) (hk : Rep c.L I w E k vk)
    (ho : (aMake c base t l k).Out y) : ∃ u w' I' E', (Instr.makeSlice t vl vk).run c.P w = .ok u w' ∧ Post c.L I E R w base y.2 y.1 u w' I' E' := by
  unfold aMake at ho
  split at ho
  · rename_i k1 n k2 m e hu
    split at ho
    · rename_i i hi
      split at ho
      · rename_i hkn
        obtain ⟨hkn, hfl⟩ := hkn
        simp only [Tree.Out] at ho
        obtain ⟨⟨h0, rfl, hby, hmax⟩, rfl⟩ := ho
        cases hl; cases hk
        obtain ⟨i', z, hi', hz, his, hzs, hpos, hzc⟩ := zero_of c hkn
        rw [hi] at hi'; cases hi'
        have hrun := run_make (P := c.P) w t e i z hu hi hz k1 k2 n n h0 (Int.le_refl _) (by omega) (by omega)
        have hcell : ∀ q j : Nat, q < n.toNat → j < c.L.sz e → (madeCells z.cells (n.toNat * i.size))[q * c.L.sz e + j]? = some (z.cells[j]?.getD undef) := by
          intro q j hq hj
          have hlt : q * c.L.sz e + j < n.toNat * c.L.sz e := by
            have : (q + 1) * c.L.sz e ≤ n.toNat * c.L.sz e := Nat.mul_le_mul_right _ (by omega)
            rw [Nat.succ_mul] at this; omega
          have hmod : (q * c.L.sz e + j) % z.cells.size = j := by rw [hzs, Nat.mul_comm, Nat.mul_add_mod, Nat.mod_eq_of_lt hj]
          have hjz : j < z.cells.size := by omega
          unfold madeCells
          rw [his, Array.getElem?_map, Array.getElem?_range, if_pos hlt]
          simp only [Option.map_some, hmod]
          rw [getElem!_pos z.cells j hjz, Array.getElem?_eq_getElem hjz]
          rfl
        have hpost := h.addVec (w1 := w) hb e (List.replicate n.toNat (c.L.dflt e)) n.toNat (madeCells z.cells (n.toNat * i.size)) (by simp) (by rw [size_madeCells, his]) (fun q j => z.cells[j]?.getD undef)
          (by
            intro q j hq hj
            rw [List.length_replicate] at hq
            refine ⟨hcell q j hq hj, ?_⟩
            obtain ⟨v, g1, g2, _⟩ := hzc j hj
            rw [g1]; exact g2)
          (by
            intro q x hx j a ha
            have hq : q < n.toNat := by
              rcases Nat.lt_or_ge q (List.replicate n.toNat (c.L.dflt e)).length with h' | h'
              · simpa using h'
              · rw [List.getElem?_eq_none h'] at hx; cases hx
            rw [List.getElem?_replicate, if_pos hq] at hx
            cases hx
            have hj : j < c.L.sz e := by
              rcases Nat.lt_or_ge j (c.L.enc e (c.L.dflt e)).length with h' | h'
              · rw [c.L.enc_len] at h'; exact h'
              · rw [List.getElem?_eq_none h'] at ha; cases ha
            obtain ⟨v, g1, g2, g3⟩ := hzc j hj
            rw [g1]
            exact g3 _ _ a ha)
          (Fr.refl _ _)
        refine ⟨_, _, _, _, ?_, hpost⟩
        rw [hrun, List.length_replicate]
      · exact ho.elim
    · exact ho.elim
  · exact ho.elim

theorem asList_ok (h : HR c.L I w E R) {x : AVal El} {v : Value} {t : TypeId} {xs : List (El t)} {upd : List (Nat × Res El)} (hx : Rep c.L I w E x v) (ho : asList R x = some ⟨t, xs, upd⟩) :
    ∃ I', Ext I E R w I' E (updR R upd) w ∧ HR c.L I' w E (updR R upd) ∧ Rep c.L I' w E (.list t xs) v := by
  unfold asList at ho
  split at ho
  · simp only [Option.some.injEq, Sigma.mk.injEq] at ho
    obtain ⟨rfl, ho⟩ := ho
    simp only [heq_eq_eq, Prod.mk.injEq] at ho
    obtain ⟨rfl, rfl⟩ := ho
    exact ⟨I, Ext.refl, h, hx⟩
  · rename_i r
    split at ho
    · rename_i t' xs' hg
      simp only [Option.some.injEq, Sigma.mk.injEq] at ho
      obtain ⟨rfl, ho⟩ := ho
      simp only [heq_eq_eq, Prod.mk.injEq] at ho
      obtain ⟨rfl, rfl⟩ := ho
      obtain ⟨e, h1, h2⟩ := h.res r (by rw [hg]; simp)
      rw [hg] at h2
      cases hx with
      | vec he hone =>
        rw [h1] at he; cases he
        rcases h2 with ⟨k0, rfl, a, k⟩ | ⟨b, cap, cells, vals, k1, k2, k3, k4, k5, k6, k7⟩
        · obtain ⟨g1, g2⟩ := h.kill (r := r) (by rw [hg]; simp) h1 I (fun _ h => h) (fun _ h => .inl h)
          rw [k]
          exact ⟨I, g2, g1, .listNil⟩
        · obtain ⟨g1, g2⟩ := h.kill (r := r) (by rw [hg]; simp) h1 (fun k => I k ∨ k = b) (fun _ h => .inl h) (fun k hk => hk.imp id (fun (hkb : k = b) => by rw [hkb]; exact k1))
          refine ⟨fun k => I k ∨ k = b, g2, g1, ?_⟩
          rw [k2]
          exact .list (.inr rfl) k4 rfl k3 vals (by simpa using k6) (fun i x hx j a ha => (k7 i x hx j a ha).mono (fun _ h => .inl h) (fun _ _ => rfl) (Env.le_refl _))
    · cases ho
  · cases ho

/-- A cut of a list. -/
theorem Rep.cut {t : TypeId} {xs : List (El t)} {a : Option Addr} {len cap : Nat} (hx : Rep L I w E (.list t xs) (.slice a len cap)) {l h m : Nat} (hlh : l ≤ h) (hhl : h ≤ xs.length) (hhm : h ≤ m) (s : Nat) (hs : s = L.sz t) :
    Rep L I w E (.list t ((xs.take h).drop l)) (.slice (if m = l then a else a.map (·.add (l * s))) (h - l) (m - l)) := by
  subst hs
  by_cases hd : h - l = 0
  · have : (xs.take h).drop l = [] := by
      apply List.drop_eq_nil_of_le
      simp; omega
    rw [this, hd]
    exact .listNil
  · have hml : ¬ m = l := by omega
    rw [if_neg hml]
    cases hx with
    | listNil => simp at hhl; omega
    | list hI hb hlen hcap vals hc hrep =>
      rename_i b o cells ty fz
      simp only [Option.map_some, Addr.add_lit]
      refine .list hI hb (by simp; omega) (by omega) (fun i j => vals (l + i) j) ?_ ?_
      · intro i j hi hj
        simp at hi
        have := hc (l + i) j (by omega) hj
        rw [Nat.add_mul] at this
        rw [show o + l * L.sz t + i * L.sz t + j = o + (l * L.sz t + i * L.sz t) + j from by omega]
        exact this
      · intro i x hx j a ha
        rw [List.getElem?_drop, List.getElem?_take] at hx
        split at hx
        · exact hrep (l + i) x hx j a ha
        · cases hx

theorem bndO_ok {o : Option (AVal El)} {vo : Option Value} {r : Option Int} (h : bndO o = some r) (hr : ∀ a, o = some a → ∃ v, vo = some v ∧ Rep L I w E a v) (hn : o = none → vo = none) :
    (r = none ∧ vo = none) ∨ ∃ k n, r = some n ∧ vo = some (.int k n) := by
  cases o with
  | none => simp [bndO] at h; subst h; exact .inl ⟨rfl, hn rfl⟩
  | some a =>
    obtain ⟨v, h1, h2⟩ := hr a rfl
    cases a <;> simp [bndO] at h
    subst h
    cases h2
    exact .inr ⟨_, _, rfl, h1⟩
end proofs
end Go.Ax
end

/- A verified symbolic executor, part 8: cutting a slice, appending to one. Over any program; the facts on its types are given with it. -/
section
set_option linter.unusedVariables false
set_option linter.unusedSimpArgs false
namespace Go.Ax
variable {El : TypeId → Type}
section proofs
variable {I : Nat → Prop} {E : Env} {R : List (Res El)} {w w' : World} {c : Cx El} {L : Lay El}

theorem run_sliceBound {P : Program} {k : IntKind} {n y : Nat} (h : n ≤ y) (code : BoundsCode) (w : World) : (Instr.sliceBound (.int k n) y code).run P w = .ok n w := by
  have : (0 : Int) ≤ n ∧ (n : Int) ≤ y := ⟨by omega, by omega⟩
  simp [Instr.sliceBound, asIntOf, this]

theorem run_sliceBounds {P : Program} {len cap l h m : Nat} {vlo vhi vmx : Option Value} (hm : (vmx = none ∧ m = cap) ∨ (∃ k, vmx = some (.int k m) ∧ m ≤ cap))
    (hh : (vhi = none ∧ vmx = none ∧ h = len) ∨ (∃ k, vhi = some (.int k h) ∧ h ≤ m)) (hl : (vlo = none ∧ l = 0) ∨ (∃ k, vlo = some (.int k l) ∧ l ≤ h)) (w : World) :
    (Instr.sliceBounds true len cap vlo vhi vmx).run P w = .ok (l, h, m) w := by
  rcases hm with ⟨rfl, rfl⟩ | ⟨k, rfl, hm⟩
  · rcases hh with ⟨rfl, _, rfl⟩ | ⟨k1, rfl, hh⟩
    · rcases hl with ⟨rfl, rfl⟩ | ⟨k2, rfl, hl⟩
      · simp [Instr.sliceBounds]
      · simp [Instr.sliceBounds, run_sliceBound hl]
    · rcases hl with ⟨rfl, rfl⟩ | ⟨k2, rfl, hl⟩
      · simp [Instr.sliceBounds, run_sliceBound hh]
      · simp [Instr.sliceBounds, run_sliceBound hh, run_sliceBound hl]
  · rcases hh with ⟨_, h, _⟩ | ⟨k1, rfl, hh⟩
    · cases h
    · rcases hl with ⟨rfl, rfl⟩ | ⟨k2, rfl, hl⟩
      · simp [Instr.sliceBounds, run_sliceBound hm, run_sliceBound hh]
      · simp [Instr.sliceBounds, run_sliceBound hm, run_sliceBound hh, run_sliceBound hl]

/-- An optional operand and its value. -/
def OptRep (L : Lay El) (I : Nat → Prop) (w : World) (E : Env) : Option (AVal El) → Option Value → Prop
  | none, none => True
  | some a, some v => Rep L I w E a v
  | _, _ => False

theorem bnd_none {o : Option (AVal El)} {v : Option Value} (h : bndO o = some none) (hr : OptRep L I w E o v) : v = none := by
  cases o with
  | none => cases v with
    | none => rfl
    | some v => exact hr.elim
  | some a => cases a <;> simp [bndO] at h
theorem bnd_some {o : Option (AVal El)} {v : Option Value} {n : Int} (h : bndO o = some (some n)) (hr : OptRep L I w E o v) : ∃ k, v = some (.int k n) := by
  cases o with
  | none => simp [bndO] at h
  | some a =>
    cases a <;> simp [bndO] at h
    subst h
    cases v with
    | none => exact hr.elim
    | some v => cases hr; exact ⟨_, rfl⟩

theorem aSlice_ok (h : HR c.L I w E R) {base : Nat} {t : TypeId} {x : AVal El} {v : Value} {lo hi mx : Option (AVal El)} {vlo vhi vmx : Option Value} {y : Eff El} (hx : Rep c.L I w E x v)
    (hlo : OptRep c.L I w E lo vlo) (hhi : OptRep c.L I w E hi vhi) (hmx : OptRep c.L I w E mx vmx) (ho : (aSlice c R t x lo hi mx).Out y) :
    ∃ u w' I' E', (Instr.sliceAt t v vlo vhi vmx).run c.P w = .ok u w' ∧ Post c.L I E R w base y.2 y.1 u w' I' E' := by
  unfold aSlice at ho
  split at ho
  · rename_i e hu
    split at ho
    · rename_i t' xs upd hlist
      split at ho
      · rename_i hk
        obtain ⟨rfl, hk⟩ := hk
        obtain ⟨I', g1, g2, g3⟩ := asList_ok h hx hlist
        have hsz := (c.known_ok _ hk).1
        obtain ⟨a, len, cap, rfl, hle, hlen⟩ : ∃ a len cap, v = .slice a len cap ∧ len ≤ cap ∧ len = xs.length := by
          cases g3 with
          | listNil => exact ⟨_, _, _, rfl, Nat.zero_le _, rfl⟩
          | list _ _ h3 h4 => exact ⟨_, _, _, rfl, h4, h3⟩
        have key : ∀ (l h m : Nat), (Instr.sliceBounds true len cap vlo vhi vmx).run c.P w = .ok (l, h, m) w → l ≤ h → h ≤ xs.length → h ≤ m → ∀ zs, zs = (xs.take h).drop l →
            ∃ u w' I' E', (Instr.sliceAt t (.slice a len cap) vlo vhi vmx).run c.P w = .ok u w' ∧ Post c.L I E R w base upd (.list t' zs) u w' I' E' := by
          rintro l h m hb h1 h2 h3 zs rfl
          refine ⟨_, w, I', E, ?_, ⟨g1, g2, g3.cut h1 h2 h3 _ rfl, fun _ _ => rfl⟩⟩
          simp [Instr.sliceAt, run_underlying hu, Instr.slice, hb, info_size hsz]
        have nat : ∀ n : Int, 0 ≤ n → ∃ k : Nat, n = k ∧ n.toNat = k := fun n hn => ⟨n.toNat, by omega, rfl⟩
        split at ho
        · rename_i b1 b2 b3
          simp only [Tree.Out] at ho; subst ho
          have e1 := bnd_none b1 hlo
          have e2 := bnd_none b2 hhi
          have e3 := bnd_none b3 hmx
          exact key 0 len cap (run_sliceBounds (.inl ⟨e3, rfl⟩) (.inl ⟨e2, e3, rfl⟩) (.inl ⟨e1, rfl⟩) w) (by omega) (by omega) (by omega) _ (by simp [hlen])
        · rename_i l b1 b2 b3
          simp only [Tree.Out] at ho
          obtain ⟨⟨p1, p2⟩, ho⟩ := ho; subst ho
          obtain ⟨k1, e1⟩ := bnd_some b1 hlo
          have e2 := bnd_none b2 hhi
          have e3 := bnd_none b3 hmx
          obtain ⟨l', rfl, q⟩ := nat l p1
          exact key l' len cap (run_sliceBounds (.inl ⟨e3, rfl⟩) (.inl ⟨e2, e3, rfl⟩) (.inr ⟨k1, e1, by omega⟩) w) (by omega) (by omega) (by omega) _ (by simp [hlen])
        · rename_i h' b1 b2 b3
          simp only [Tree.Out] at ho
          obtain ⟨⟨p1, p2⟩, ho⟩ := ho; subst ho
          have e1 := bnd_none b1 hlo
          obtain ⟨k2, e2⟩ := bnd_some b2 hhi
          have e3 := bnd_none b3 hmx
          obtain ⟨h'', rfl, q⟩ := nat h' p1
          exact key 0 h'' cap (run_sliceBounds (.inl ⟨e3, rfl⟩) (.inr ⟨k2, e2, by omega⟩) (.inl ⟨e1, rfl⟩) w) (by omega) (by omega) (by omega) _ (by simp)
        · rename_i l h' b1 b2 b3
          simp only [Tree.Out] at ho
          obtain ⟨⟨p1, p2, p3⟩, ho⟩ := ho; subst ho
          obtain ⟨k1, e1⟩ := bnd_some b1 hlo
          obtain ⟨k2, e2⟩ := bnd_some b2 hhi
          have e3 := bnd_none b3 hmx
          obtain ⟨l', rfl, q⟩ := nat l p1
          obtain ⟨h'', rfl, q'⟩ := nat h' (by omega)
          exact key l' h'' cap (run_sliceBounds (.inl ⟨e3, rfl⟩) (.inr ⟨k2, e2, by omega⟩) (.inr ⟨k1, e1, by omega⟩) w) (by omega) (by omega) (by omega) _ (by simp)
        · rename_i h' m b1 b2 b3
          simp only [Tree.Out] at ho
          obtain ⟨⟨p1, p2, p3⟩, ho⟩ := ho; subst ho
          have e1 := bnd_none b1 hlo
          obtain ⟨k2, e2⟩ := bnd_some b2 hhi
          obtain ⟨k3, e3⟩ := bnd_some b3 hmx
          obtain ⟨h'', rfl, q'⟩ := nat h' p1
          obtain ⟨m', rfl, q''⟩ := nat m (by omega)
          exact key 0 h'' m' (run_sliceBounds (.inr ⟨k3, e3, by omega⟩) (.inr ⟨k2, e2, by omega⟩) (.inl ⟨e1, rfl⟩) w) (by omega) (by omega) (by omega) _ (by simp)
        · rename_i l h' m b1 b2 b3
          simp only [Tree.Out] at ho
          obtain ⟨⟨p1, p2, p3, p4⟩, ho⟩ := ho; subst ho
          obtain ⟨k1, e1⟩ := bnd_some b1 hlo
          obtain ⟨k2, e2⟩ := bnd_some b2 hhi
          obtain ⟨k3, e3⟩ := bnd_some b3 hmx
          obtain ⟨l', rfl, q⟩ := nat l p1
          obtain ⟨h'', rfl, q'⟩ := nat h' (by omega)
          obtain ⟨m', rfl, q''⟩ := nat m (by omega)
          exact key l' h'' m' (run_sliceBounds (.inr ⟨k3, e3, by omega⟩) (.inr ⟨k2, e2, by omega⟩) (.inr ⟨k1, e1, by omega⟩) w) (by omega) (by omega) (by omega) _ (by simp)
        · exact ho.elim
      · exact ho.elim
    · exact ho.elim
  · rename_i n e hu
    split at ho
    · rename_i r off
      split at ho
      · rename_i hsome
        simp only [Tree.Out] at ho; subst ho
        cases vlo with
        | some _ => exact hlo.elim
        | none =>
          cases vhi with
          | some _ => exact hhi.elim
          | none =>
            cases vmx with
            | some _ => exact hmx.elim
            | none =>
              cases hx with
              | ptr he =>
                rename_i b raw
                refine ⟨.slice (some ⟨b, off, none⟩) n n, w, I, E, ?_, h.still (.cs he)⟩
                cases hi' : c.P.info? e with
                | none => simp [hi'] at hsome
                | some i =>
                  by_cases hn : n = 0
                  · subst hn
                    simp [Instr.sliceAt, run_underlying hu, Instr.sureAddr, Instr.sliceBounds, sizeOf, typeInfo, hi']
                  · simp [Instr.sliceAt, run_underlying hu, Instr.sureAddr, Instr.sliceBounds, sizeOf, typeInfo, hi', hn, Addr.add_lit]
      · exact ho.elim
    · exact ho.elim
  · exact ho.elim

/-- What an append reads. -/
structure Src (L : Lay El) (I : Nat → Prop) (w : World) (t : TypeId) (ys : List (El t)) (v : Value) (news : List Value) : Prop where
  val : ∃ xa xc, v = .slice xa ys.length xc ∧ (0 < ys.length → ∃ ad, xa = some ad ∧ ∀ j u, news[j]? = some u → w.cell? (ad.add j) = some u)
  len : news.length = ys.length * L.sz t
  one : ∀ u ∈ news, u.oneCell' = true
  rep : ∀ i y, ys[i]? = some y → ∀ j a, (L.enc t y)[j]? = some a → Rep L I w noE a (news.getD (i * L.sz t + j) undef)

theorem Src.of_row {t : TypeId} {ys : List (El t)} {b o : Nat} {xc : Nat} {cells : Array Value} {ty : TypeId} {fz : Nat × Nat} {I' : Nat → Prop} (hb : w.heap[b]? = some (.cells cells ty fz)) (vals : Nat → Nat → Value)
    (hcells : ∀ (i j : Nat), i < ys.length → j < L.sz t → cells[o + i * L.sz t + j]? = some (vals i j) ∧ (vals i j).oneCell' = true)
    (hrep : ∀ (i : Nat) (x : El t), ys[i]? = some x → ∀ (j : Nat) (c : AVal El), (L.enc t x)[j]? = some c → Rep L I' w noE c (vals i j)) (hI' : ∀ b, I' b → I b) (hpos : 0 < L.sz t) :
    ∃ news, Src L I w t ys (.slice (some ⟨b, o, none⟩) ys.length xc) news := by
  obtain ⟨news, hl, hv⟩ := list_of_fun (fun k => vals (k / L.sz t) (k % L.sz t)) (ys.length * L.sz t)
  have hdiv : ∀ k, k < ys.length * L.sz t → k / L.sz t < ys.length ∧ k % L.sz t < L.sz t := fun k hk => ⟨Nat.div_lt_of_lt_mul (by rwa [Nat.mul_comm]), Nat.mod_lt _ hpos⟩
  have hlt : ∀ j u, news[j]? = some u → j < ys.length * L.sz t := fun j u hu => by
    rcases Nat.lt_or_ge j news.length with h | h
    · omega
    · rw [List.getElem?_eq_none h] at hu; cases hu
  refine ⟨news, ⟨_, _, rfl, fun _ => ⟨_, rfl, fun j u hu => ?_⟩⟩, hl, fun u hu => ?_, fun i y hy j a ha => ?_⟩
  · have hj := hlt j u hu
    rw [hv j hj] at hu; cases hu
    obtain ⟨d1, d2⟩ := hdiv j hj
    rw [Addr.add_lit, cell_of hb]
    have := (hcells _ _ d1 d2).1
    rw [← this]
    congr 1
    have := Nat.div_add_mod j (L.sz t)
    rw [Nat.mul_comm] at this
    omega
  · obtain ⟨j, hj⟩ := List.mem_iff_getElem?.1 hu
    have hj' := hlt j u hj
    rw [hv j hj'] at hj; cases hj
    obtain ⟨d1, d2⟩ := hdiv j hj'
    exact (hcells _ _ d1 d2).2
  · have hi : i < ys.length := by
      rcases Nat.lt_or_ge i ys.length with h' | h'
      · exact h'
      · rw [List.getElem?_eq_none h'] at hy; cases hy
    have hj : j < L.sz t := by
      rcases Nat.lt_or_ge j (L.enc t y).length with h' | h'
      · rw [L.enc_len] at h'; exact h'
      · rw [List.getElem?_eq_none h'] at ha; cases ha
    have hk : i * L.sz t + j < ys.length * L.sz t := by
      have : (i + 1) * L.sz t ≤ ys.length * L.sz t := Nat.mul_le_mul_right _ (by omega)
      rw [Nat.succ_mul] at this; omega
    have h1 : (i * L.sz t + j) / L.sz t = i := by rw [Nat.mul_comm, Nat.mul_add_div hpos, Nat.div_eq_of_lt hj, Nat.add_zero]
    have h2 : (i * L.sz t + j) % L.sz t = j := by rw [Nat.mul_comm, Nat.mul_add_mod, Nat.mod_eq_of_lt hj]
    rw [List.getD_eq_getElem?_getD, hv _ hk]
    simp only [h1, h2, Option.getD_some]
    exact (hrep i y hy j a ha).mono hI' (fun _ _ => rfl) (Env.le_refl _)

theorem srcOf_ok (h : HR L I w E R) {x : AVal El} {v : Value} {t : TypeId} {ys : List (El t)} (hx : Rep L I w E x v) (ho : srcOf R x = some ⟨t, ys⟩) (hpos : 0 < L.sz t) : ∃ news, Src L I w t ys v news := by
  have nil : ∀ a cap, ys = [] → v = .slice a 0 cap → ∃ news, Src L I w t ys v news := by
    rintro a cap rfl rfl
    exact ⟨[], ⟨_, _, rfl, fun h => by simp at h⟩, by simp, by simp, fun i y hy => by simp at hy⟩
  unfold srcOf at ho
  split at ho
  · simp only [Option.some.injEq, Sigma.mk.injEq] at ho
    obtain ⟨rfl, ho⟩ := ho
    simp only [heq_eq_eq] at ho; subst ho
    cases hx with
    | listNil => exact nil _ _ rfl rfl
    | list hI hb hlen hcap vals hc hrep => subst hlen; exact Src.of_row hb vals hc hrep (fun _ h => h) hpos
  · rename_i r
    split at ho
    · rename_i t' xs hg
      simp only [Option.some.injEq, Sigma.mk.injEq] at ho
      obtain ⟨rfl, ho⟩ := ho
      simp only [heq_eq_eq] at ho; subst ho
      obtain ⟨e, h1, h2⟩ := h.res r (by rw [hg]; simp)
      rw [hg] at h2
      cases hx with
      | vec he hone =>
        rw [h1] at he; cases he
        rcases h2 with ⟨_, k0, a, k⟩ | ⟨b, cap, cells, vals, k1, k2, k3, k4, k5, k6, k7⟩
        · exact nil _ _ k0 k
        · rw [k2]
          exact Src.of_row (o := 0) k4 vals (by simpa using k6) k7 (fun _ h => h) hpos
    · cases ho
  · cases ho

theorem Src.first {t : TypeId} {ys : List (El t)} {v : Value} {news : List Value} (h : Src L I w t ys v news) (P : Program) {w1 : World} (hw : ∀ a, w1.cell? a = w.cell? a) :
    (Builtin.firstCells (L.sz t) ys.length v).run P w1 = .ok news.toArray w1 := by
  obtain ⟨xa, xc, rfl, h2⟩ := h.val
  cases xa with
  | none =>
    have h0 : ¬ 0 < ys.length := fun hp => by obtain ⟨ad, h3, _⟩ := h2 hp; cases h3
    have h1 := h.len
    have : ys.length = 0 := by omega
    rw [this, Nat.zero_mul] at h1
    rw [List.eq_nil_of_length_eq_zero h1]
    exact run_firstCells_none w1 _ _ _ _
  | some ad =>
    refine run_firstCells_some w1 _ _ _ _ _ news h.len (fun j u hu => ?_)
    rw [hw]
    have hp : 0 < ys.length := by
      have := h.len
      have hj : j < news.length := by
        rcases Nat.lt_or_ge j news.length with h' | h'
        · exact h'
        · rw [List.getElem?_eq_none h'] at hu; cases hu
      rcases Nat.eq_zero_or_pos ys.length with h' | h'
      · rw [h', Nat.zero_mul] at this; omega
      · exact h'
    obtain ⟨ad', h3, h4⟩ := h2 hp
    cases h3
    exact h4 j u hu
end proofs
end Go.Ax
end

/- A verified symbolic executor, part 9: appending to a slice of the run's own. Over any program; the facts on its types are given with it. -/
section
set_option linter.unusedVariables false
set_option linter.unusedSimpArgs false
namespace Go.Ax
variable {El : TypeId → Type}
section proofs
variable {I : Nat → Prop} {E : Env} {R : List (Res El)} {w w' : World} {c : Cx El} {L : Lay El}

theorem run_append_in {P : Program} {sT xT ty e e2 : TypeId} {i : TypeInfo} (hs : P.underlying sT = some (.slice e)) (hx : P.underlying xT = some (.slice e2)) (hi : P.info? e = some i)
    {base : Option Addr} {sLen sCap n xc : Nat} {xa : Option Addr} {news : List Value} (hn : sLen + n ≤ sCap) (hf : (Builtin.firstCells i.size n (.slice xa n xc)).run P w = .ok news.toArray w)
    {w1 : World} (hst : ∀ a, base = some a → (storeCells (a.add (sLen * i.size)) news).run P w = .ok () w1) (hno : base = none → w1 = w) :
    (Builtin.append_ #[sT, xT] ty #[.slice base sLen sCap, .slice xa n xc]).run P w = .ok (.slice base (sLen + n) sCap) w1 := by
  cases base with
  | none =>
    rw [hno rfl]
    simp [Builtin.append_, run_underlying hs, run_underlying hx, sizeOf, typeInfo, hi, Builtin.lenOf, hn, hf]
  | some a =>
    have := hst a rfl
    simp [Builtin.append_, run_underlying hs, run_underlying hx, sizeOf, typeInfo, hi, Builtin.lenOf, hn, hf, this]

theorem run_append_out {P : Program} {sT xT ty e e2 : TypeId} {i : TypeInfo} {z : Value} (hs : P.underlying sT = some (.slice e)) (hx : P.underlying xT = some (.slice e2)) (hi : P.info? e = some i) (hz : i.zero = some z)
    {base : Option Addr} {sLen sCap n xc : Nat} {xa : Option Addr} {olds news : List Value} (hn : sCap < sLen + n) (hfo : (Builtin.firstCells i.size sLen (.slice base sLen sCap)).run P w.drew = .ok olds.toArray w.drew)
    (hf : (Builtin.firstCells i.size n (.slice xa n xc)).run P w.drew = .ok news.toArray w.drew) (h63 : ((sLen + n : Nat) : Int) ≤ 9223372036854775807) (hfit : Builtin.nextslicecap (sLen + n) sCap * i.bytes ≤ 281474976710656) :
    (Builtin.append_ #[sT, xT] ty #[.slice base sLen sCap, .slice xa n xc]).run P w =
      .ok (.slice (some ⟨w.heap.size, 0, none⟩) (sLen + n) (grownCap w (sLen + n) sCap e)) (w.drew.alloc (.cells ((olds ++ news).toArray ++ Builtin.zeroCells z.cells (grownCap w (sLen + n) sCap e - (sLen + n))) e)) := by
  have hn' : ¬ (sLen + n ≤ sCap) := by omega
  have h63' : ¬ (9223372036854775807 < ((sLen : Int) + (n : Int))) := by omega
  have h48' : ¬ (281474976710656 < Builtin.nextslicecap (sLen + n) sCap * i.bytes) := by omega
  simp [Builtin.append_, run_underlying hs, run_underlying hx, sizeOf, typeInfo, zeroValue, hi, hz, Builtin.lenOf, hn', h63', h48', Question.forced, hf, hfo, newRow, grownCap]
  congr 2
  apply Array.ext'
  simp [List.append_assoc]

theorem cell?_drew' (w : World) (a : Addr) : w.drew.cell? a = w.cell? a := rfl

theorem aAppend_ok (h : HR c.L I w E R) {base : Nat} (hb : E base = none) {sT xT ty : TypeId} {s x : AVal El} {vs vx : Value} {y : Eff El} (hs : Rep c.L I w E s vs) (hx : Rep c.L I w E x vx)
    (ho : (aAppend c R base sT xT s x).Out y) : ∃ u w' I' E', (Builtin.append_ #[sT, xT] ty #[vs, vx]).run c.P w = .ok u w' ∧ Post c.L I E R w base y.2 y.1 u w' I' E' := by
  unfold aAppend at ho
  split at ho
  · rename_i r e e2 hus hux
    split at ho
    · rename_i t xs i hg hi
      split at ho
      · rename_i hk
        obtain ⟨rfl, hk, hfl⟩ := hk
        split at ho
        · rename_i t' ys hsrc
          split at ho
          · rename_i htt
            subst htt
            simp only [Tree.Out] at ho
            obtain ⟨⟨hby, hmax⟩, rfl⟩ := ho
            obtain ⟨i', z, hi', hz, his, hzs, hpos, hzc⟩ := zero_of c hk
            rw [hi] at hi'; cases hi'
            obtain ⟨news, src⟩ := srcOf_ok h hx hsrc hpos
            have hf := fun {w1 : World} (hw : ∀ a, w1.cell? a = w.cell? a) => src.first c.P hw
            obtain ⟨xa, xc, rfl, hsrc2⟩ := src.val
            obtain ⟨er, h1, h2⟩ := h.res r (by rw [hg]; simp)
            have hrd : getR R r ≠ .dead := by rw [hg]; simp
            have hrb : r ≠ base := fun e => by rw [e] at h1; rw [hb] at h1; cases h1
            rw [hg] at h2
            obtain ⟨kk, kx⟩ := h.kill hrd h1 I (fun _ h => h) (fun _ h => .inl h)
            have killOwn : ∀ k, Own E (setR R r .dead) k → Own E R k ∧ er.blk ≠ some k := by
              rintro k ⟨r', e', g1, g2, g3⟩
              rw [getR_setR] at g1
              by_cases hrr : r' = r
              · rw [if_pos hrr] at g1; exact absurd rfl g1
              · rw [if_neg hrr] at g1
                exact ⟨⟨r', e', g1, g2, g3⟩, fun hk => hrr (h.apart r' r e' er k g1 hrd g2 h1 g3 hk)⟩
            have names : ∀ (E' : Env) (e' : REnv), E' = E.put base e' → ∀ r', (∀ x, (r', x) ∈ [(r, Res.dead), (base, Res.vec t' (xs ++ ys))] → r' < base) → E' r' = E r' := by
              rintro E' e' rfl r' hr'
              exact Env.put_ne _ _ (fun e => absurd (hr' (.vec t' (xs ++ ys)) (by rw [e]; simp)) (by omega))
            have hmul : ∀ {p q m : Nat}, p < q → p * c.L.sz t' + c.L.sz t' ≤ q * c.L.sz t' := fun {p q m} hpq => by
              have : (p + 1) * c.L.sz t' ≤ q * c.L.sz t' := Nat.mul_le_mul_right _ hpq
              rwa [Nat.succ_mul] at this
            have encj : ∀ (x : El t') (j : Nat) (a : AVal El), (c.L.enc t' x)[j]? = some a → j < c.L.sz t' := fun x j a ha => by
              rcases Nat.lt_or_ge j (c.L.enc t' x).length with h' | h'
              · rw [c.L.enc_len] at h'; exact h'
              · rw [List.getElem?_eq_none h'] at ha; cases ha
            -- an append that grows, whatever the old cells
            have grow : ∀ (sa : Option Addr) (sCap : Nat) (olds : List Value) (ovals : Nat → Nat → Value), vs = .slice sa xs.length sCap → sCap < xs.length + ys.length →
                (Builtin.firstCells i.size xs.length (.slice sa xs.length sCap)).run c.P w.drew = .ok olds.toArray w.drew → olds.length = xs.length * c.L.sz t' →
                (∀ i j, i < xs.length → j < c.L.sz t' → olds[i * c.L.sz t' + j]? = some (ovals i j) ∧ (ovals i j).oneCell' = true) →
                (∀ i x, xs[i]? = some x → ∀ j a, (c.L.enc t' x)[j]? = some a → Rep c.L I w noE a (ovals i j)) →
                ∃ u w' I' E', (Builtin.append_ #[sT, xT] ty #[vs, .slice xa ys.length xc]).run c.P w = .ok u w' ∧ Post c.L I E R w base [(r, .dead), (base, .vec t' (xs ++ ys))] (.vec base) u w' I' E' := by
              intro sa sCap olds ovals hvs hlt hfo holen hov horep
              subst hvs
              have hfit : Builtin.nextslicecap (xs.length + ys.length) sCap * i.bytes ≤ 281474976710656 := growslice_fits hlt hby
              have hrun := run_append_out (P := c.P) (w := w) (ty := ty) hus hux hi hz hlt hfo (by rw [his]; exact hf (w1 := w.drew) (fun _ => rfl)) (by omega) hfit
              have hcapge := grownCap_ge w (xs.length + ys.length) sCap t'
              have hsize : ((olds ++ news).toArray ++ Builtin.zeroCells z.cells (grownCap w (xs.length + ys.length) sCap t' - (xs.length + ys.length))).size = grownCap w (xs.length + ys.length) sCap t' * c.L.sz t' := by
                rw [Array.size_append, size_zeroCells, hzs]
                simp only [List.size_toArray, List.length_append, holen, src.len]
                rw [← Nat.add_mul, ← Nat.add_mul]
                congr 1; omega
              have hpost := kk.addVec (w1 := w.drew) hb t' (xs ++ ys) (grownCap w (xs.length + ys.length) sCap t') _ (by simpa using hcapge) hsize
                (fun i j => if i < xs.length then ovals i j else news.getD ((i - xs.length) * c.L.sz t' + j) undef)
                (by
                  intro q j hq hj
                  simp only [List.length_append] at hq
                  by_cases hqx : q < xs.length
                  · simp only [if_pos hqx]
                    have hlt' : q * c.L.sz t' + j < olds.length := by rw [holen]; have := hmul (m := 0) hqx; omega
                    refine ⟨?_, (hov q j hqx hj).2⟩
                    rw [Array.getElem?_append_left (by simp; omega), List.getElem?_toArray, List.getElem?_append_left hlt']
                    exact (hov q j hqx hj).1
                  · simp only [if_neg hqx]
                    have hq2 : q - xs.length < ys.length := by omega
                    have hk2 : (q - xs.length) * c.L.sz t' + j < news.length := by rw [src.len]; have := hmul (m := 0) hq2; omega
                    have hqe : q * c.L.sz t' = xs.length * c.L.sz t' + (q - xs.length) * c.L.sz t' := by rw [← Nat.add_mul]; congr 1; omega
                    have hidx : q * c.L.sz t' + j = olds.length + ((q - xs.length) * c.L.sz t' + j) := by rw [holen]; omega
                    rw [Array.getElem?_append_left (by simp; omega), List.getElem?_toArray, hidx, List.getElem?_append_right (by omega), Nat.add_sub_cancel_left, List.getD_eq_getElem?_getD, List.getElem?_eq_getElem hk2]
                    exact ⟨rfl, src.one _ (List.getElem_mem hk2)⟩)
                (by
                  intro q x hx' j a ha
                  by_cases hqx : q < xs.length
                  · simp only [if_pos hqx]
                    rw [List.getElem?_append_left hqx] at hx'
                    exact horep q x hx' j a ha
                  · simp only [if_neg hqx]
                    rw [List.getElem?_append_right (by omega)] at hx'
                    exact src.rep _ x hx' j a ha)
                (Fr.drew w)
              have hl : (xs ++ ys).length = xs.length + ys.length := by simp
              rw [hl] at hpost
              exact ⟨_, _, _, _, hrun, ⟨kx.trans hpost.ext, hpost.hr, hpost.rep, names _ _ rfl⟩⟩
            cases hs with
            | vec he hone =>
              rw [h1] at he; cases he
              rcases h2 with ⟨k0, k1, a, k⟩ | ⟨b, cap, cells, vals, k1, k2, k3, k4, k5, k6, k7⟩
              · subst k1
                by_cases hy0 : ys.length = 0
                · -- nothing to append to nothing
                  have hye : ys = [] := List.eq_nil_of_length_eq_zero hy0
                  subst hye
                  have hnews : news = [] := by
                    have := src.len
                    simp at this
                    exact this
                  subst hnews
                  have hrun := run_append_in (P := c.P) (w := w) (ty := ty) (base := a) (sLen := 0) (sCap := 0) (n := 0) (xc := xc) (xa := xa) (news := []) hus hux hi (by omega) (by rw [his]; exact hf (w1 := w) (fun _ => rfl)) (w1 := w) (fun _ _ => rfl) (fun _ => rfl)
                  have hadd := kk.add0 (w' := w) hb ⟨none, .slice a 0 0⟩ (.vec t' []) (fun _ _ => rfl) (Nat.le_refl _) (.inl ⟨rfl, rfl, a, rfl⟩) (fun b hb => by cases hb)
                  refine ⟨_, w, I, E.put base ⟨none, .slice a 0 0⟩, by rw [k]; exact hrun, ⟨⟨fun _ h => h, Env.le_put hb, Fr.refl _ _, fun _ h => .inl h, ?_⟩, hadd, .vec (Env.put_same _ _ _) rfl, names _ _ rfl⟩⟩
                  rintro q ⟨r', e', g1, g2, g3⟩
                  simp only [updR] at g1
                  rw [getR_setR] at g1
                  by_cases hr' : r' = base
                  · subst hr'; rw [Env.put_same] at g2; cases g2; cases g3
                  · rw [if_neg hr'] at g1; rw [Env.put_ne _ _ hr'] at g2
                    exact .inl (killOwn q ⟨r', e', g1, g2, g3⟩).1
                · have hfirst : (Builtin.firstCells i.size ([] : List (El t')).length (.slice a ([] : List (El t')).length 0)).run c.P w.drew = .ok ([] : List Value).toArray w.drew := by
                    cases a with
                    | none => exact run_firstCells_none _ _ _ _ _
                    | some ad => exact run_firstCells_some _ _ _ _ _ _ [] (by simp) (fun j u hu => by simp at hu)
                  exact grow a 0 [] (fun _ _ => undef) k (by simp; omega) hfirst (by simp) (fun q j hq => by simp at hq) (fun q x hx => by simp at hx)
              · by_cases hroom : xs.length + ys.length ≤ cap
                · -- in place
                  have hcl : xs.length * i.size + news.length ≤ cells.size := by
                    rw [k5, his, src.len, ← Nat.add_mul]
                    exact Nat.mul_le_mul_right _ hroom
                  have hst := run_storeCells_at c.P b (xs.length * i.size) t' news 0 cells w k4 (by simpa using hcl) src.one
                  simp only [Nat.add_zero] at hst
                  have hrun := run_append_in (P := c.P) (w := w) (ty := ty) (base := some ⟨b, 0, none⟩) (sCap := cap) hus hux hi hroom (by rw [his]; exact hf (w1 := w) (fun _ => rfl))
                    (w1 := w.setRow b (cells.toList.take (xs.length * i.size) ++ news ++ cells.toList.drop (xs.length * i.size + news.length)).toArray)
                    (fun ad hd => by cases hd; rw [Addr.add_lit, Nat.zero_add]; exact hst) (fun hd => by cases hd)
                  have hbown : Own E R b := ⟨r, er, hrd, h1, k1⟩
                  have hsame : ∀ q, Own E (setR R r .dead) q ∨ I q → (w.setRow b (cells.toList.take (xs.length * i.size) ++ news ++ cells.toList.drop (xs.length * i.size + news.length)).toArray).heap[q]? = w.heap[q]? := by
                    rintro q (hq | hq)
                    · exact setRow_other w b q _ (fun e => (killOwn q hq).2 (e ▸ k1))
                    · exact setRow_other w b q _ (fun e => h.notI b hbown (e ▸ hq))
                  have hx' : HRes c.L I (w.setRow b (cells.toList.take (xs.length * i.size) ++ news ++ cells.toList.drop (xs.length * i.size + news.length)).toArray)
                      (E.put base ⟨some b, .slice (some ⟨b, 0, none⟩) (xs ++ ys).length cap⟩) ⟨some b, .slice (some ⟨b, 0, none⟩) (xs ++ ys).length cap⟩ (.vec t' (xs ++ ys)) := by
                    refine .inr ⟨b, cap, _, fun q j => if q < xs.length then vals q j else news.getD ((q - xs.length) * c.L.sz t' + j) undef, rfl, rfl, by simpa using hroom, setRow_heap w b _ _ t' (0, 0) k4, ?_, ?_, ?_⟩
                    · simp only [List.size_toArray, List.length_append, List.length_take, List.length_drop, Array.length_toList]
                      omega
                    · intro q j hq hj
                      simp only [List.length_append] at hq
                      have hspl := splice_get cells.toList news (xs.length * i.size) (by simpa using hcl) (q * c.L.sz t' + j)
                      rw [List.getElem?_toArray, hspl, his]
                      by_cases hqx : q < xs.length
                      · simp only [if_pos hqx]
                        have := hmul (m := 0) hqx
                        rw [if_neg (by omega)]
                        have := k6 q j hqx hj
                        simpa using this
                      · simp only [if_neg hqx]
                        have hq2 : q - xs.length < ys.length := by omega
                        have hk2 : (q - xs.length) * c.L.sz t' + j < news.length := by rw [src.len]; have := hmul (m := 0) hq2; omega
                        have hqe : q * c.L.sz t' = xs.length * c.L.sz t' + (q - xs.length) * c.L.sz t' := by rw [← Nat.add_mul]; congr 1; omega
                        rw [if_pos (by omega), show q * c.L.sz t' + j - xs.length * c.L.sz t' = (q - xs.length) * c.L.sz t' + j from by omega, List.getD_eq_getElem?_getD, List.getElem?_eq_getElem hk2]
                        exact ⟨rfl, src.one _ (List.getElem_mem hk2)⟩
                    · intro q x hx' j a ha
                      by_cases hqx : q < xs.length
                      · simp only [if_pos hqx]
                        rw [List.getElem?_append_left hqx] at hx'
                        exact (k7 q x hx' j a ha).mono (fun _ h => h) (fun k hk => hsame k (.inr hk)) (Env.le_refl _)
                      · simp only [if_neg hqx]
                        rw [List.getElem?_append_right (by omega)] at hx'
                        exact (src.rep _ x hx' j a ha).mono (fun _ h => h) (fun k hk => hsame k (.inr hk)) (Env.le_refl _)
                  have hadd := kk.add0 hb _ _ hsame (by simp) hx' (fun q hq => by
                    cases hq
                    exact ⟨fun ho => (killOwn b ho).2 k1, h.notI b hbown⟩)
                  have hl : (xs ++ ys).length = xs.length + ys.length := by simp
                  have hfr : Fr (Own E R) w (w.setRow b (cells.toList.take (xs.length * i.size) ++ news ++ cells.toList.drop (xs.length * i.size + news.length)).toArray) :=
                    ⟨rfl, rfl, rfl, by simp, fun q hq hno => setRow_other w b q _ (fun e => hno (e ▸ hbown))⟩
                  refine ⟨_, _, I, _, by rw [k2]; exact hrun, ⟨⟨fun _ h => h, Env.le_put hb, hfr, fun _ h => .inl h, ?_⟩, hadd, ?_, names _ _ rfl⟩⟩
                  · rintro q ⟨r', e', g1, g2, g3⟩
                    simp only [updR] at g1
                    rw [getR_setR] at g1
                    by_cases hr' : r' = base
                    · subst hr'; rw [Env.put_same] at g2; cases g2; cases g3; exact .inl hbown
                    · rw [if_neg hr'] at g1; rw [Env.put_ne _ _ hr'] at g2
                      exact .inl (killOwn q ⟨r', e', g1, g2, g3⟩).1
                  · rw [← hl]
                    exact .vec (Env.put_same _ _ _) rfl
                · -- a new row
                  have hle : (cells.toList.take (xs.length * c.L.sz t')).length = xs.length * c.L.sz t' := by
                    simp only [List.length_take, Array.length_toList, k5]
                    have : xs.length * c.L.sz t' ≤ cap * c.L.sz t' := Nat.mul_le_mul_right _ k3
                    omega
                  have hfirst : (Builtin.firstCells i.size xs.length (.slice (some ⟨b, 0, none⟩) xs.length cap)).run c.P w.drew = .ok (cells.toList.take (xs.length * c.L.sz t')).toArray w.drew := by
                    refine run_firstCells_some _ _ _ _ _ _ _ (by rw [hle, his]) (fun j u hu => ?_)
                    rw [List.getElem?_take] at hu
                    split at hu
                    · rw [cell?_drew', Addr.add_lit, Nat.zero_add, cell_of k4]
                      simpa using hu
                    · cases hu
                  refine grow (some ⟨b, 0, none⟩) cap _ vals k2 (by omega) hfirst hle (fun q j hq hj => ?_) k7
                  have := k6 q j hq hj
                  refine ⟨?_, this.2⟩
                  rw [List.getElem?_take, if_pos (by have := hmul (m := 0) hq; omega)]
                  simpa using this.1
          · exact ho.elim
        · exact ho.elim
      · exact ho.elim
    · exact ho.elim
  · exact ho.elim
end proofs

section defs
variable (c : Cx El) (R : List (Res El))

def aCap (t : TypeId) (x : AVal El) : Tree (AVal El) :=
  match c.P.underlying t with
  | some (.array n _) => .leaf (.int .i64 n)
  | some (.slice _) => match x with
    | .nils => .leaf (.int .i64 0)
    | .cs _ _ n => .leaf (.int .i64 n)
    | _ => .fail
  | _ => .fail

/-- An append of noughts to nothing. -/
def aAppendMake (base : Nat) (e : TypeId) (x : AVal El) : Tree (Eff El) :=
  match x, c.P.info? e with
  | .int _ n, some i => if c.known e = true ∧ c.flat e = true then
      .need (0 < n ∧ (i.bytes : Int) * n ≤ 140737488355328 ∧ n ≤ 140737488355328) (.leaf (.vec base, [(base, .vec e (List.replicate n.toNat (c.L.dflt e)))]))
    else .fail
  | _, _ => .fail

def isNils : AVal El → Bool
  | .nils => true
  | _ => false

/-- Appends, to nil too. -/
def aAppend2 (base : Nat) (sT xT : TypeId) (s x : AVal El) : Tree (Eff El) :=
  match isNils s, c.P.underlying sT, c.P.underlying xT with
  | true, some (.slice e), some (.int _) => aAppendMake c base e x
  | true, some (.slice e), some (.slice _) => match isNils x with
    | true => if c.known e = true then .leaf (.nils, []) else .fail
    | false => (aAppend c (setR R base (.vec e [])) (base + 1) sT xT (.vec base) x).bind fun y => .leaf (y.1, (base, .vec e []) :: y.2)
  | _, _, _ => aAppend c R base sT xT s x

/-- A cut: of a vector's head, it stays one. -/
def aSlice2 (base : Nat) (t : TypeId) (x : AVal El) (lo hi mx : Option (AVal El)) : Tree (Eff El) :=
  match x, lo, hi, mx with
  | .vec r, none, some (.int _ h), none => match getR R r, c.P.underlying t with
    | .vec t' xs, some (.slice e) => if t' = e ∧ c.known e = true then
        .need (0 ≤ h ∧ h ≤ xs.length) (.leaf (.vec base, [(r, .dead), (base, .vec t' (xs.take h.toNat))]))
      else .fail
    | _, _ => .fail
  | .nils, none, some (.int _ h), none => match c.P.underlying t with
    | some (.slice e) => if c.known e = true then .need (h = 0) (.leaf (.nils, [])) else .fail
    | _ => .fail
  | x, lo, hi, mx => aSlice c R t x lo hi mx

/-- A slice written out: of parts that hold names, as cells. -/
def aBuildSlice2 (base : Nat) (t : TypeId) (len : Nat) (parts : List (Nat × AVal El)) : Tree (Eff El) :=
  match c.P.underlying t with
  | some (.slice e) => match c.dt e with
    | true => aBuildSlice c base t len parts
    | false => if c.known e = true ∧ len * c.L.sz e ≤ 16777216 then
        match aFill (fun i => some (i * c.L.sz e, c.L.sz e)) (topsF (len * c.L.sz e)) parts with
        | some cs => .leaf (.cs base 0 len, [(base, .cells e cs)])
        | none => .fail
      else .fail
  | _ => .fail
end defs

section proofs
variable {I : Nat → Prop} {E : Env} {R : List (Res El)} {w w' : World} {c : Cx El} {L : Lay El}

theorem aCap_ok {t ty : TypeId} {x r : AVal El} {v : Value} (hx : Rep c.L I w E x v) (ho : (aCap c t x).Out r) :
    ∃ u, (Builtin.cap_ #[t] ty #[v]).run c.P w = .ok u w ∧ Rep c.L I w E r u := by
  unfold aCap at ho
  split at ho
  · rename_i n e hu
    simp only [Tree.Out] at ho; subst ho
    exact ⟨_, by simp [Builtin.cap_, run_underlying hu]; rfl, .int⟩
  · rename_i e hu
    split at ho
    · simp only [Tree.Out] at ho; subst ho
      cases hx
      exact ⟨_, by simp [Builtin.cap_, run_underlying hu]; rfl, .int⟩
    · simp only [Tree.Out] at ho; subst ho
      cases hx
      exact ⟨_, by simp [Builtin.cap_, run_underlying hu]; rfl, .int⟩
    · exact ho.elim
  · exact ho.elim

set_option maxRecDepth 4000 in
theorem run_append_make {P : Program} {sT xT ty e : TypeId} {q k : IntKind} {i : TypeInfo} {z : Value} (hs : P.underlying sT = some (.slice e)) (hx : P.underlying xT = some (.int q)) (hi : P.info? e = some i) (hz : i.zero = some z)
    {n : Int} (h0 : 0 < n) (hmax : n ≤ 140737488355328) (hby : (i.bytes : Int) * n ≤ 140737488355328) (hsz : 0 < i.size) :
    (Builtin.append_ #[sT, xT] ty #[.slice none 0 0, .int k n]).run P w =
      .ok (.slice (some ⟨w.heap.size, 0, none⟩) n.toNat (grownCap w n.toNat 0 e)) (w.drew.alloc (.cells (Builtin.zeroCells z.cells n.toNat ++ Builtin.zeroCells z.cells (grownCap w n.toNat 0 e - n.toNat)) e)) := by
  obtain ⟨m, rfl⟩ : ∃ m : Nat, n = m := ⟨n.toNat, by omega⟩
  have hw : IntKind.i64.wrap (m : Int) = m := IntWalk.i64_in _ (by omega)
  have hn : ¬ ((m : Int) < 0) := by omega
  have hm0 : ¬ m = 0 := by omega
  have hb2 : (m : Int) * (i.bytes : Int) ≤ 140737488355328 := by rw [Int.mul_comm]; exact hby
  have hb3 : ¬ ((281474976710656 : Int) < (m : Int) * (i.bytes : Int)) := by omega
  have hb4 : m * i.bytes ≤ 140737488355328 := by
    have h := hb2
    rw [← Int.natCast_mul] at h
    omega
  have h63 : ¬ ((9223372036854775807 : Int) < (m : Int)) := by omega
  have hcap : Builtin.nextslicecap m 0 = m := by
    unfold Builtin.nextslicecap
    rw [if_pos (by omega)]
  have h48 : ¬ (281474976710656 < m * i.bytes) := by omega
  have hsz0 : ¬ (i.size = 0) := by omega
  simp [Builtin.append_, run_underlying hs, run_underlying hx, sizeOf, typeInfo, zeroValue, hi, hz, asInt, asIntOf, hw, hn, hb3, hm0, h63, hcap, h48, hsz0, Question.forced, newRow, grownCap, Builtin.firstCells]
  intro h0'
  rcases Nat.mul_eq_zero.1 h0' with h | h
  · exact absurd h hm0
  · exact absurd h hsz0

theorem aAppendMake_ok (h : HR c.L I w E R) {base : Nat} (hb : E base = none) {sT xT ty e : TypeId} {q : IntKind} (hs : c.P.underlying sT = some (.slice e)) (hxT : c.P.underlying xT = some (.int q)) {x : AVal El} {vx : Value} {y : Eff El}
    (hx : Rep c.L I w E x vx) (ho : (aAppendMake c base e x).Out y) : ∃ u w' I' E', (Builtin.append_ #[sT, xT] ty #[.slice none 0 0, vx]).run c.P w = .ok u w' ∧ Post c.L I E R w base y.2 y.1 u w' I' E' := by
  unfold aAppendMake at ho
  split at ho
  · rename_i k n i hi
    split at ho
    · rename_i hkn
      obtain ⟨hkn, hfl⟩ := hkn
      simp only [Tree.Out] at ho
      obtain ⟨⟨h0, hby, hmax⟩, rfl⟩ := ho
      cases hx
      obtain ⟨i', z, hi', hz, his, hzs, hpos, hzc⟩ := zero_of c hkn
      rw [hi] at hi'; cases hi'
      have hrun := run_append_make (P := c.P) (w := w) (ty := ty) (k := k) hs hxT hi hz h0 hmax hby (by omega)
      have hcapge := grownCap_ge w n.toNat 0 e
      have hsize : (Builtin.zeroCells z.cells n.toNat ++ Builtin.zeroCells z.cells (grownCap w n.toNat 0 e - n.toNat)).size = grownCap w n.toNat 0 e * c.L.sz e := by
        rw [Array.size_append, size_zeroCells, size_zeroCells, hzs, ← Nat.add_mul]
        congr 1; omega
      have hcell : ∀ q j : Nat, q < n.toNat → j < c.L.sz e → (Builtin.zeroCells z.cells n.toNat ++ Builtin.zeroCells z.cells (grownCap w n.toNat 0 e - n.toNat))[q * c.L.sz e + j]? = some (z.cells[j]?.getD undef) := by
        intro q j hq hj
        have hlt : q * c.L.sz e + j < n.toNat * c.L.sz e := by
          have : (q + 1) * c.L.sz e ≤ n.toNat * c.L.sz e := Nat.mul_le_mul_right _ (by omega)
          rw [Nat.succ_mul] at this; omega
        have hmod : (q * c.L.sz e + j) % z.cells.size = j := by rw [hzs, Nat.mul_comm, Nat.mul_add_mod, Nat.mod_eq_of_lt hj]
        have hjz : j < z.cells.size := by omega
        rw [Array.getElem?_append_left (by rw [size_zeroCells, hzs]; exact hlt)]
        unfold Builtin.zeroCells
        rw [Array.getElem?_map, Array.getElem?_range, if_pos (by rw [hzs]; exact hlt)]
        simp only [Option.map_some, hmod]
        rw [getElem!_pos z.cells j hjz, Array.getElem?_eq_getElem hjz]
        rfl
      have hpost := h.addVec (w1 := w.drew) hb e (List.replicate n.toNat (c.L.dflt e)) (grownCap w n.toNat 0 e) _ (by simpa using hcapge) hsize (fun q j => z.cells[j]?.getD undef)
        (by
          intro q j hq hj
          rw [List.length_replicate] at hq
          refine ⟨hcell q j hq hj, ?_⟩
          obtain ⟨v, g1, g2, _⟩ := hzc j hj
          rw [g1]; exact g2)
        (by
          intro q x hx j a ha
          have hq : q < n.toNat := by
            rcases Nat.lt_or_ge q (List.replicate n.toNat (c.L.dflt e)).length with h' | h'
            · simpa using h'
            · rw [List.getElem?_eq_none h'] at hx; cases hx
          rw [List.getElem?_replicate, if_pos hq] at hx
          cases hx
          have hj : j < c.L.sz e := by
            rcases Nat.lt_or_ge j (c.L.enc e (c.L.dflt e)).length with h' | h'
            · rw [c.L.enc_len] at h'; exact h'
            · rw [List.getElem?_eq_none h'] at ha; cases ha
          obtain ⟨v, g1, g2, g3⟩ := hzc j hj
          rw [g1]
          exact g3 _ _ a ha)
        (Fr.drew w)
      refine ⟨_, _, _, _, ?_, hpost⟩
      rw [hrun, List.length_replicate]
      rfl
    · exact ho.elim
  · exact ho.elim

theorem isNils_ok {s : AVal El} {v : Value} (hs : Rep L I w E s v) (h : isNils s = true) : v = .slice none 0 0 := by
  cases s <;> simp [isNils] at h
  cases hs; rfl

theorem aAppend2_ok (h : HR c.L I w E R) {base : Nat} {sT xT ty : TypeId} {s x : AVal El} {vs vx : Value} {y : Eff El} (hs : Rep c.L I w E s vs) (hx : Rep c.L I w E x vx)
    (ho : (aAppend2 c R base sT xT s x).Out y) (hfree : ∀ r x, (r, x) ∈ y.2 → base ≤ r → E r = none) (hone : ∀ y', (aAppend c R base sT xT s x).Out y' → ∃ x, (base, x) ∈ y'.2) :
    ∃ u w' I' E', (Builtin.append_ #[sT, xT] ty #[vs, vx]).run c.P w = .ok u w' ∧ Post c.L I E R w base y.2 y.1 u w' I' E' := by
  have plain : (aAppend c R base sT xT s x).Out y → ∃ u w' I' E', (Builtin.append_ #[sT, xT] ty #[vs, vx]).run c.P w = .ok u w' ∧ Post c.L I E R w base y.2 y.1 u w' I' E' := fun ho => by
    obtain ⟨x', hx'⟩ := hone y ho
    exact aAppend_ok h (hfree _ _ hx' (Nat.le_refl _)) hs hx ho
  unfold aAppend2 at ho
  split at ho
  · rename_i e q hn hu hxu
    have := isNils_ok hs hn; subst this
    have hb : E base = none := by
      have ho' := ho
      unfold aAppendMake at ho'
      split at ho'
      · split at ho'
        · simp only [Tree.Out] at ho'
          obtain ⟨_, rfl⟩ := ho'
          exact hfree base _ (List.mem_singleton.2 rfl) (Nat.le_refl _)
        · exact ho'.elim
      · exact ho'.elim
    exact aAppendMake_ok h hb hu hxu hx ho
  · rename_i e e2 hn hu hxu
    have := isNils_ok hs hn; subst this
    split at ho
    · rename_i hnx
      have := isNils_ok hx hnx; subst this
      split at ho
      · rename_i hk
        simp only [Tree.Out] at ho; subst ho
        refine ⟨.slice none 0 0, w, I, E, ?_, h.still .nils⟩
        obtain ⟨i, z, hi, _⟩ := zero_of c hk
        simp [Builtin.append_, run_underlying hu, run_underlying hxu, sizeOf, typeInfo, hi, Builtin.lenOf, Builtin.firstCells]
      · exact ho.elim
    · obtain ⟨y', ho', hy⟩ := Tree.out_bind.1 ho
      simp only [Tree.Out] at hy; subst hy
      have hb : E base = none := hfree base _ (List.mem_cons_self) (Nat.le_refl _)
      obtain ⟨g1, g2⟩ := h.add hb ⟨none, .slice none 0 0⟩ (.vec e []) (Fr.refl _ _) (.inl ⟨rfl, rfl, none, rfl⟩) (fun b hb => by cases hb)
      have hb1 : E (base + 1) = none := by
        have ho2 := ho'
        unfold aAppend at ho2
        split at ho2 <;> try exact ho2.elim
        split at ho2 <;> try exact ho2.elim
        split at ho2 <;> try exact ho2.elim
        split at ho2 <;> try exact ho2.elim
        split at ho2 <;> try exact ho2.elim
        simp only [Tree.Out] at ho2
        obtain ⟨_, rfl⟩ := ho2
        exact hfree (base + 1) _ (List.mem_cons_of_mem _ (List.mem_cons_of_mem _ (List.mem_singleton.2 rfl))) (by omega)
      have hx' := hx.mono (fun _ h => h) (fun _ _ => rfl) (Env.le_put (e := ⟨none, .slice none 0 0⟩) hb)
      obtain ⟨u, w', I', E', k1, k2⟩ := aAppend_ok (ty := ty) g1 (base := base + 1) (by rw [Env.put_ne _ _ (by omega)]; exact hb1) (Rep.vec (Env.put_same E base ⟨none, .slice none 0 0⟩) rfl) hx' ho'
      refine ⟨u, w', I', E', k1, ⟨g2.trans k2.ext, k2.hr, k2.rep, fun r hr => ?_⟩⟩
      have hrb : r ≠ base := fun hrb => absurd (hr (.vec e []) (by rw [hrb]; exact List.mem_cons_self)) (by omega)
      rw [k2.names r (fun x hx => by have := hr x (List.mem_cons_of_mem _ hx); omega), Env.put_ne _ _ hrb]
  · exact plain ho

theorem aSlice2_ok (h : HR c.L I w E R) {base : Nat} {t : TypeId} {x : AVal El} {v : Value} {lo hi mx : Option (AVal El)} {vlo vhi vmx : Option Value} {y : Eff El} (hx : Rep c.L I w E x v)
    (hlo : OptRep c.L I w E lo vlo) (hhi : OptRep c.L I w E hi vhi) (hmx : OptRep c.L I w E mx vmx) (ho : (aSlice2 c R base t x lo hi mx).Out y) (hfree : ∀ r x, (r, x) ∈ y.2 → base ≤ r → E r = none) :
    ∃ u w' I' E', (Instr.sliceAt t v vlo vhi vmx).run c.P w = .ok u w' ∧ Post c.L I E R w base y.2 y.1 u w' I' E' := by
  unfold aSlice2 at ho
  split at ho
  · rename_i r k hh
    split at ho
    · rename_i t' xs e hg hu
      split at ho
      · rename_i hk
        obtain ⟨rfl, hk⟩ := hk
        simp only [Tree.Out] at ho
        obtain ⟨⟨p1, p2⟩, rfl⟩ := ho
        have hb : E base = none := hfree base _ (List.mem_cons_of_mem _ (List.mem_singleton.2 rfl)) (Nat.le_refl _)
        obtain ⟨m, rfl⟩ : ∃ m : Nat, hh = m := ⟨hh.toNat, by omega⟩
        have p2 : m ≤ xs.length := by omega
        obtain ⟨er, h1, h2⟩ := h.res r (by rw [hg]; simp)
        have hrd : getR R r ≠ .dead := by rw [hg]; simp
        rw [hg] at h2
        have hsz := (c.known_ok _ hk).1
        cases vlo with
        | some _ => exact hlo.elim
        | none =>
        cases vmx with
        | some _ => exact hmx.elim
        | none =>
        cases vhi with
        | none => exact hhi.elim
        | some vh =>
        cases hhi
        cases hx with
        | vec he hone =>
        rw [h1] at he; cases he
        obtain ⟨kk, kx⟩ := h.kill hrd h1 I (fun _ h => h) (fun _ h => .inl h)
        have killOwn : ∀ k, Own E (setR R r .dead) k → Own E R k ∧ er.blk ≠ some k := by
          rintro k ⟨r', e', g1, g2, g3⟩
          rw [getR_setR] at g1
          by_cases hrr : r' = r
          · rw [if_pos hrr] at g1; exact absurd rfl g1
          · rw [if_neg hrr] at g1
            exact ⟨⟨r', e', g1, g2, g3⟩, fun hk => hrr (h.apart r' r e' er k g1 hrd g2 h1 g3 hk)⟩
        -- the shorter value
        obtain ⟨raw, hraw, hrun, hone', hres, hblk⟩ : ∃ raw, ∃ e' : REnv, (Instr.sliceAt t er.raw none (some (.int k m)) none).run c.P w = .ok raw w ∧ raw.oneCell' = true ∧
            HRes c.L I w (E.put base ⟨er.blk, raw⟩) ⟨er.blk, raw⟩ (.vec t' (xs.take m)) ∧ True := by
          rcases h2 with ⟨k0, rfl, a, ka⟩ | ⟨b, cap, cells, vals, k1, k2, k3, k4, k5, k6, k7⟩
          · have hm : m = 0 := by simpa using p2
            subst hm
            refine ⟨.slice a 0 0, er, ?_, rfl, .inl ⟨k0, by simp, a, rfl⟩, trivial⟩
            rw [ka]
            simp [Instr.sliceAt, run_underlying hu, Instr.slice, run_sliceBounds (P := c.P) (len := 0) (cap := 0) (l := 0) (h := 0) (m := 0) (vlo := none) (vhi := some (.int k 0)) (vmx := none) (.inl ⟨rfl, rfl⟩) (.inr ⟨k, rfl, Nat.le_refl _⟩) (.inl ⟨rfl, rfl⟩) w, info_size hsz]
          · refine ⟨.slice (some ⟨b, 0, none⟩) m cap, er, ?_, rfl, .inr ⟨b, cap, cells, vals, k1, ?_, ?_, k4, k5, fun i j hi hj => k6 i j ?_ hj, fun i x hx j q hq => ?_⟩, trivial⟩
            · rw [k2]
              by_cases hc0 : cap = 0
              · subst hc0
                have hm0 : m = 0 := by omega
                subst hm0
                simp [Instr.sliceAt, run_underlying hu, Instr.slice, run_sliceBounds (P := c.P) (len := xs.length) (cap := 0) (l := 0) (h := 0) (m := 0) (vlo := none) (vhi := some (.int k 0)) (vmx := none) (.inl ⟨rfl, rfl⟩) (.inr ⟨k, rfl, Nat.le_refl _⟩) (.inl ⟨rfl, rfl⟩) w, info_size hsz]
              · simp [Instr.sliceAt, run_underlying hu, Instr.slice, run_sliceBounds (P := c.P) (len := xs.length) (cap := cap) (l := 0) (h := m) (m := cap) (vlo := none) (vhi := some (.int k m)) (vmx := none) (.inl ⟨rfl, rfl⟩) (.inr ⟨k, rfl, by omega⟩) (.inl ⟨rfl, rfl⟩) w, info_size hsz, hc0, Addr.add_lit]
            · simp; omega
            · simp; omega
            · simp at hi; omega
            · rw [List.getElem?_take] at hx
              split at hx
              · exact k7 i x hx j q hq
              · cases hx
        have hadd := kk.add0 (w' := w) hb ⟨er.blk, raw⟩ (.vec t' (xs.take m)) (fun _ _ => rfl) (Nat.le_refl _) hres (fun b hb => ⟨fun ho => (killOwn b ho).2 hb, h.notI b ⟨r, er, hrd, h1, hb⟩⟩)
        refine ⟨raw, w, I, _, hrun, ⟨⟨fun _ h => h, Env.le_put hb, Fr.refl _ _, fun _ h => .inl h, ?_⟩, hadd, .vec (Env.put_same E base ⟨er.blk, raw⟩) hone', fun r' hr' => ?_⟩⟩
        · rintro q ⟨r', e', g1, g2, g3⟩
          simp only [updR] at g1
          rw [getR_setR] at g1
          by_cases hr' : r' = base
          · subst hr'; rw [Env.put_same] at g2; cases g2
            exact .inl ⟨r, er, hrd, h1, g3⟩
          · rw [if_neg hr'] at g1; rw [Env.put_ne _ _ hr'] at g2
            exact .inl (killOwn q ⟨r', e', g1, g2, g3⟩).1
        · exact Env.put_ne _ _ (fun e => absurd (hr' _ (by rw [e]; exact List.mem_cons_of_mem _ (List.mem_singleton.2 rfl))) (by omega))
      · exact ho.elim
    · exact ho.elim
  · rename_i k hh
    split at ho
    · rename_i e hu
      split at ho
      · rename_i hk
        simp only [Tree.Out] at ho
        obtain ⟨rfl, rfl⟩ := ho
        have hsz := (c.known_ok _ hk).1
        cases vlo with
        | some _ => exact hlo.elim
        | none =>
        cases vmx with
        | some _ => exact hmx.elim
        | none =>
        cases vhi with
        | none => exact hhi.elim
        | some vh =>
        cases hhi
        cases hx
        refine ⟨.slice none 0 0, w, I, E, ?_, h.still .nils⟩
        simp [Instr.sliceAt, run_underlying hu, Instr.slice, run_sliceBounds (P := c.P) (len := 0) (cap := 0) (l := 0) (h := 0) (m := 0) (vlo := none) (vhi := some (.int k 0)) (vmx := none) (.inl ⟨rfl, rfl⟩) (.inr ⟨k, rfl, Nat.le_refl _⟩) (.inl ⟨rfl, rfl⟩) w, info_size hsz]
      · exact ho.elim
    · exact ho.elim
  · exact aSlice_ok h hx hlo hhi hmx ho

theorem aBuildSlice2_ok (h : HR c.L I w E R) {base : Nat} (hb : E base = none) {t : TypeId} {len : Nat} {parts : List (Nat × AVal El)} {pv : List (Nat × Value)} {y : Eff El} (hp : PartsRep c.L I w E parts pv)
    (ho : (aBuildSlice2 c base t len parts).Out y) : ∃ u w' I' E', (Instr.buildSlice t len pv.toArray).run c.P w = .ok u w' ∧ Post c.L I E R w base y.2 y.1 u w' I' E' := by
  unfold aBuildSlice2 at ho
  split at ho
  · rename_i e hu
    split at ho
    · exact aBuildSlice_ok h hb hp ho
    · split at ho
      · rename_i hk
        obtain ⟨hk, hsmall⟩ := hk
        split at ho
        · rename_i cs hfill
          simp only [Tree.Out] at ho; subst ho
          obtain ⟨i, z, hi, hz, his, hzs, hpos, hzc⟩ := zero_of c hk
          have hzero : ∀ k : Nat, z.cells[k % z.cells.size]! ∈ z.cells.toList := by
            intro k
            have : k % z.cells.size < z.cells.size := Nat.mod_lt _ (by rw [hzs]; exact hpos)
            rw [getElem!_pos z.cells _ this]
            simp
          have hzone : ∀ v ∈ z.cells.toList, v.oneCell' = true := by
            intro v hv
            obtain ⟨k, hk'⟩ := List.mem_iff_getElem?.1 hv
            have hlt : k < c.L.sz e := by
              rcases Nat.lt_or_ge k z.cells.toList.length with h' | h'
              · simpa [hzs] using h'
              · rw [List.getElem?_eq_none h'] at hk'; cases hk'
            obtain ⟨v', g1, g2, _⟩ := hzc k hlt
            rw [Array.getElem?_toList, g1] at hk'; cases hk'
            exact g2
          obtain ⟨us, k1, k2, k3⟩ := aFill_ok hp hfill (topsF_reps (L := c.L) (I := I) (w := w) (E := E) (len * c.L.sz e) ((List.range (len * c.L.sz e)).map (fun k => z.cells[k % z.cells.size]!)) (by simp))
            (fun v hv => by
              obtain ⟨k, _, rfl⟩ := List.mem_map.1 hv
              exact hzone _ (hzero k))
          have hpost := h.addCells hb e k2 k3
          refine ⟨.slice (some ⟨w.heap.size, 0, none⟩) len len, _, _, _, ?_, ⟨hpost.ext, hpost.hr, .cs (Env.put_same _ _ _), hpost.names⟩⟩
          have hfill' : Instr.fill (fun i => some (i * c.L.sz e, c.L.sz e)) ((Array.range (len * c.L.sz e)).map (fun k => z.cells[k % z.cells.size]!)) pv = some us.toArray := by
            rw [← k1]
            congr 1
            apply Array.ext'
            simp
          by_cases h0 : len * c.L.sz e = 0
          · have hfill0 : Instr.fill (fun i => some (i * c.L.sz e, c.L.sz e)) ((Array.range (len * c.L.sz e)).map (fun k => (#[] : Array Value)[k % (#[] : Array Value).size]!)) pv = some us.toArray := by
              rw [← hfill', h0, Array.range_zero']; simp
            have h24 : ¬ (16777216 < len * c.L.sz e) := by omega
            simp only [Instr.buildSlice, run_underlying hu, sizeOf, typeInfo, hi, his, Sem.run_bind, Sem.run_pure, run_program, Result.andThen_ok, Sem.run_ite]
            rw [if_neg (by simpa using h24), if_pos h0]
            simp only [Sem.run_pure, Result.andThen_ok, hfill0]
            simp [newRow]
          · have h24 : ¬ (16777216 < len * c.L.sz e) := by omega
            simp only [Instr.buildSlice, run_underlying hu, sizeOf, typeInfo, zeroValue, hi, hz, his, Sem.run_bind, Sem.run_pure, run_program, Result.andThen_ok, Sem.run_ite]
            rw [if_neg (by simpa using h24), if_neg h0]
            simp only [Sem.run_pure, Result.andThen_ok, hfill']
            simp [newRow]
        · exact ho.elim
      · exact ho.elim
  · exact ho.elim
end proofs
end Go.Ax
end

/- A verified symbolic executor, part 26: maps. Maps of plain numbers are lists of pairs; maps whose keys are written out are lists of keys and values. Over any program; the facts on its types are given with it. -/
section
set_option linter.unusedVariables false
set_option linter.unusedSimpArgs false
namespace Go.Ax
variable {El : TypeId → Type}

section plain
variable {X : Type}
def findM : List (Int × X) → Int → Option X
  | [], _ => none
  | p :: m, n => if n = p.1 then some p.2 else findM m n
def hasM : List (Int × X) → Int → Bool
  | [], _ => false
  | p :: m, n => if n = p.1 then true else hasM m n
def setM : List (Int × X) → Int → X → List (Int × X)
  | [], n, x => [(n, x)]
  | p :: m, n, x => if n = p.1 then (n, x) :: m else p :: setM m n x
def delM : List (Int × X) → Int → List (Int × X)
  | [], _ => []
  | p :: m, n => if n = p.1 then m else p :: delM m n
def getM (m : List (Int × X)) (n : Int) (d : X) : X := match findM m n with
  | some x => x
  | none => d
end plain

section ents
variable {L : Lay El} {w : World} {k : IntKind} {t : TypeId}
theorem EntS.find {l : List MapEntry} {m : List (Int × El t)} (h : EntS L w k t l m) (n : Int) (i : Nat) :
    (Instr.findNow (.int k) (.int k n) l i = some none ∧ findM m n = none ∧ hasM m n = false ∧ (∀ x, setM m n x = m ++ [(n, x)]) ∧ delM m n = m) ∨
    ∃ j q x, Instr.findNow (.int k) (.int k n) l i = some (some (i + j, q.val)) ∧ l[j]? = some q ∧ q.key = .int k n ∧ findM m n = some x ∧ hasM m n = true ∧
      (∀ a, L.enc t x = [a] → Rep L (fun _ => False) w noE a q.val ∧ q.val.oneCell' = true) ∧ (∀ y, setM m n y = m.set j (n, y)) ∧ delM m n = m.eraseIdx j := by
  induction l generalizing m i with
  | nil => cases m with
    | nil => exact .inl ⟨rfl, rfl, rfl, fun x => rfl, rfl⟩
    | cons p m => exact h.elim
  | cons q l ih => cases m with
    | nil => exact h.elim
    | cons p m =>
      obtain ⟨⟨h1, h2⟩, h3⟩ := h
      by_cases hn : n = p.1
      · refine .inr ⟨0, q, p.2, ?_, rfl, by rw [h1, hn], by simp [findM, hn], by simp [hasM, hn], h2, fun y => by simp [setM, hn], by simp [delM, hn]⟩
        simp [Instr.findNow, Instr.sameNow, h1, hn]
      · have hb : (n == p.1) = false := by simpa using hn
        rcases ih h3 (i + 1) with ⟨k1, k2, k3, k4, k5⟩ | ⟨j, q', x, k1, k2, k3, k4, k5, k6, k7, k8⟩
        · refine .inl ⟨?_, by simp [findM, hn, k2], by simp [hasM, hn, k3], fun x => by simp [setM, hn, k4], by simp [delM, hn, k5]⟩
          simp [Instr.findNow, Instr.sameNow, h1, hb, k1]
        · refine .inr ⟨j + 1, q', x, ?_, by simpa using k2, k3, by simp [findM, hn, k4], by simp [hasM, hn, k5], k6, fun y => by simp [setM, hn, k7], by simp [delM, hn, k8]⟩
          simp [Instr.findNow, Instr.sameNow, h1, hb, k1]; omega
theorem EntS.len {l : List MapEntry} {m : List (Int × El t)} (h : EntS L w k t l m) : l.length = m.length := by
  induction l generalizing m with
  | nil => cases m with
    | nil => rfl
    | cons p m => exact h.elim
  | cons q l ih => cases m with
    | nil => exact h.elim
    | cons p m => simp [ih h.2]
theorem EntS.snoc {l : List MapEntry} {m : List (Int × El t)} (h : EntS L w k t l m) {q : MapEntry} {p : Int × El t} (hq : q.key = .int k p.1 ∧ ∀ a, L.enc t p.2 = [a] → Rep L (fun _ => False) w noE a q.val ∧ q.val.oneCell' = true) :
    EntS L w k t (l ++ [q]) (m ++ [p]) := by
  induction l generalizing m with
  | nil => cases m with
    | nil => exact ⟨hq, trivial⟩
    | cons p m => exact h.elim
  | cons q' l ih => cases m with
    | nil => exact h.elim
    | cons p' m => exact ⟨h.1, ih h.2⟩
theorem EntS.set {l : List MapEntry} {m : List (Int × El t)} (h : EntS L w k t l m) {j : Nat} {f : MapEntry → MapEntry} {p : Int × El t} (hq : ∀ q, l[j]? = some q → (f q).key = .int k p.1 ∧ ∀ a, L.enc t p.2 = [a] → Rep L (fun _ => False) w noE a (f q).val ∧ (f q).val.oneCell' = true) :
    EntS L w k t (l.modify j f) (m.set j p) := by
  induction l generalizing m j with
  | nil => cases m with
    | nil => simp [EntS]
    | cons p m => exact h.elim
  | cons q' l ih => cases m with
    | nil => exact h.elim
    | cons p' m => cases j with
      | zero => exact ⟨hq q' rfl, h.2⟩
      | succ j => exact ⟨h.1, ih h.2 (fun q hq' => hq q (by simpa using hq'))⟩
theorem EntS.erase {l : List MapEntry} {m : List (Int × El t)} (h : EntS L w k t l m) (j : Nat) : EntS L w k t (l.eraseIdx j) (m.eraseIdx j) := by
  induction l generalizing m j with
  | nil => cases m with
    | nil => simp [EntS]
    | cons p m => exact h.elim
  | cons q' l ih => cases m with
    | nil => exact h.elim
    | cons p' m => cases j with
      | zero => exact h.2
      | succ j => exact ⟨h.1, ih h.2 j⟩
end ents

section defs
variable (c : Cx El) (R : List (Res El))

def notAgg : Value → Bool
  | .agg _ => false
  | _ => true
def packL (ok : Bool) (v : AVal El) (b : Bool) : AVal El := match ok with
  | true => .tup [v, .bool b]
  | false => v
def eqKey : AVal El → AVal El → Option Bool
  | .int k n, .int k' m => if k = k' then some (n == m) else none
  | .agg cs, .agg ds => eqCells cs ds
  | _, _ => none
def shpK (kt : TypeId) : AVal El → Bool
  | .int k _ => match c.P.underlying kt with
    | some (.int k') => decide (k' = k)
    | _ => false
  | .agg cs => match c.eqT kt with
    | some s => c.keyT kt && shpC cs s
    | none => false
  | _ => false
/-- Every other value is a key of the type. -/
def shpE (kt : TypeId) : List (AVal El) → Bool
  | k :: _ :: l => shpK c kt k && shpE kt l
  | [] => true
  | _ => false
/-- The key can be compared with every entry's. -/
def eqAll (key : AVal El) : List (AVal El) → Bool
  | k :: _ :: l => (match eqKey key k with | some _ => true | none => false) && eqAll key l
  | [] => true
  | _ => false
def lookC (ok : Bool) (z key : AVal El) : List (AVal El) → Tree (AVal El)
  | k :: v :: l => match eqKey key k with
    | some b => .node b (.leaf (packL ok v true)) (lookC ok z key l)
    | none => .fail
  | [] => .leaf (packL ok z false)
  | _ => .fail
def aLookup (t : TypeId) (a key : AVal El) (ok : Bool) : Tree (AVal El) :=
  match c.P.underlying t with
  | some (.map kt et) => match (c.P.info? et).bind (·.zero) with
    | some z => match a with
      | .nilm => match shpK c kt key with
        | true => match key with
          | .int _ _ => .leaf (packL ok (absV z) false)
          | _ => .fail
        | false => .fail
      | .mapr r => match getR R r with
        | .mapS k t' m => match key, c.P.underlying kt with
          | .int k1 n, some (.int k2) => if k1 = k ∧ k2 = k ∧ t' = et ∧ c.known t' = true ∧ c.L.sz t' = 1 ∧ notAgg z = true then .leaf (packL ok (nth (c.L.enc t' (getM m n (c.L.dflt t'))) 0) (hasM m n)) else .fail
          | _, _ => .fail
        | .mapC cs => match shpK c kt key && (shpE c kt cs && eqAll key cs) with
          | true => lookC ok (absV z) key cs
          | false => .fail
        | _ => .fail
      | _ => .fail
    | none => .fail
  | _ => .fail
/-- No entry has the key. -/
def newC {X : Type} (key : AVal El) (y : X) : List (AVal El) → Tree X
  | k :: _ :: l => match eqKey key k with
    | some b => .node b .fail (newC key y l)
    | none => .fail
  | [] => .leaf y
  | _ => .fail
def aUpdate (t : TypeId) (a key x : AVal El) : Tree (Eff El) :=
  match c.P.underlying t with
  | some (.map kt et) => match a with
    | .mapr r => match getR R r with
      | .mapS k t' m => match key, c.P.underlying kt with
        | .int k1 n, some (.int k2) => if k1 = k ∧ k2 = k ∧ c.flat t' = true ∧ c.L.sz t' = 1 then match c.L.dec t' [x] with
            | some v => .leaf (.top, [(r, .mapS k t' (setM m n v))])
            | none => .fail
          else .fail
        | _, _ => .fail
      | .mapC cs => match shpK c kt key && (shpE c kt cs && eqAll key cs) with
        | true => newC key (.top, [(r, .mapC (cs ++ [key, x]))]) cs
        | false => .fail
      | _ => .fail
    | _ => .fail
  | _ => .fail
def aDelete (t : TypeId) (a key : AVal El) : Tree (Eff El) :=
  match c.P.underlying t with
  | some (.map kt et) => match a with
    | .mapr r => match getR R r with
      | .mapS k t' m => match key, c.P.underlying kt with
        | .int k1 n, some (.int k2) => if k1 = k ∧ k2 = k then .leaf (.tup [], [(r, .mapS k t' (delM m n))]) else .fail
        | _, _ => .fail
      | _ => .fail
    | _ => .fail
  | _ => .fail
def aMakeMap (base : Nat) (t : TypeId) : Tree (Eff El) :=
  match c.P.underlying t with
  | some (.map kt et) => match c.P.underlying kt, c.known et with
    | some (.int k), true => .leaf (.mapr base, [(base, .mapS k et [])])
    | _, _ => .leaf (.mapr base, [(base, .mapC [])])
  | _ => .fail
def aLenM (t : TypeId) (x : AVal El) : Tree (AVal El) := match x with
  | .mapr r => match c.P.underlying t, getR R r with
    | some (.map _ _), .mapS _ _ m => .leaf (.int .i64 m.length)
    | _, _ => .fail
  | x => aLen c R t x
end defs

section proofs
variable {I : Nat → Prop} {E : Env} {R : List (Res El)} {w : World} {c : Cx El}

theorem mapS_at (h : HR c.L I w E R) {r : Nat} {k : IntKind} {t : TypeId} {m : List (Int × El t)} {v : Value} (hg : getR R r = .mapS k t m) (hv : Rep c.L I w E (.mapr r) v) :
    ∃ e b arr clock, E r = some e ∧ e.blk = some b ∧ v = .map (some b) ∧ w.heap[b]? = some (.map arr clock) ∧ EntS c.L w k t arr.toList m := by
  obtain ⟨e, h1, h2⟩ := h.res r (by rw [hg]; simp)
  rw [hg] at h2
  obtain ⟨b, arr, clock, g1, g2, g3⟩ := h2
  cases hv with
  | mapr he => rw [h1] at he; cases he; cases g1; exact ⟨_, b, arr, clock, h1, rfl, rfl, g2, g3⟩
theorem mapC_at (h : HR c.L I w E R) {r : Nat} {cs : List (AVal El)} {v : Value} (hg : getR R r = .mapC cs) (hv : Rep c.L I w E (.mapr r) v) :
    ∃ e b arr clock l, E r = some e ∧ e.blk = some b ∧ v = .map (some b) ∧ w.heap[b]? = some (.map arr clock) ∧ Reps c.L I w E cs (entL l) ∧ List.Perm l arr.toList ∧ (l.map (·.key)).Nodup := by
  obtain ⟨e, h1, h2⟩ := h.res r (by rw [hg]; simp)
  rw [hg] at h2
  obtain ⟨b, arr, clock, l, g1, g2, g3, g4⟩ := h2
  cases hv with
  | mapr he => rw [h1] at he; cases he; cases g1; exact ⟨_, b, arr, clock, l, h1, rfl, rfl, g2, g3, g4⟩

theorem run_zeroAt {P : Program} {t : TypeId} {z : Value} (h : (P.info? t).bind (·.zero) = some z) (w : World) : (zeroValue t).run P w = .ok z w := by
  cases hi : P.info? t with
  | none => rw [hi] at h; cases h
  | some i =>
    rw [hi] at h
    have h : i.zero = some z := h
    simp [zeroValue, typeInfo, hi, h, Result.andThen]

theorem packL_ok {ok : Bool} {x : AVal El} {b : Bool} {v : Value} (h : Rep c.L I w E x v) : Rep c.L I w E (packL ok x b) (if ok = true then Value.tuple #[v, .bool b] else v) := by
  cases ok with
  | true => exact .tup (vs := [v, .bool b]) rfl (fun i c' v' hc hv => by
      match i with
      | 0 => simp at hc hv; subst hc hv; exact h
      | 1 => simp at hc hv; subst hc hv; exact .bool
      | i + 2 => simp at hc)
  | false => exact h
theorem enc_one {t : TypeId} (h : c.L.sz t = 1) (x : El t) : ∃ a, c.L.enc t x = [a] := by
  have := c.L.enc_len t x
  rw [h] at this
  match hx : c.L.enc t x with
  | [] => rw [hx] at this; simp at this
  | [a] => exact ⟨a, rfl⟩
  | _ :: _ :: _ => rw [hx] at this; simp at this
theorem run_equal_of_bin {P : Program} {t : TypeId} {xs ys : Array Value} {r : Bool} (h : (binOp .eql t (.agg xs) (.agg ys)).run P w = .ok (.bool r) w) : (Op.equal t (.agg xs) (.agg ys)).run P w = .ok r w := by
  have e : binOp .eql t (.agg xs) (.agg ys) = (do pure (.bool (← Op.equal t (.agg xs) (.agg ys)))) := rfl
  rw [e] at h
  simp only [Sem.run_bind, Result.andThen] at h
  cases hq : (Op.equal t (.agg xs) (.agg ys)).run P w with
  | halt _ _ => rw [hq] at h; simp at h
  | ok b w' => rw [hq] at h; simp at h; obtain ⟨rfl, rfl⟩ := h; rfl
theorem eqKey_int {k : IntKind} {n : Int} {a : AVal El} {b : Bool} (h : eqKey (.int k n) a = some b) : ∃ m, a = .int k m ∧ b = (n == m) := by
  cases a <;> simp only [eqKey] at h <;> try (cases h; done)
  split at h
  · rename_i k' m hk; subst hk; cases h; exact ⟨m, rfl, rfl⟩
  · cases h
theorem eqKey_agg {ks : List (AVal El)} {a : AVal El} {b : Bool} (h : eqKey (.agg ks) a = some b) : ∃ ds, a = .agg ds ∧ eqCells ks ds = some b := by
  cases a <;> simp only [eqKey] at h <;> first | (cases h; done) | exact ⟨_, rfl, h⟩
theorem isKey_int (k : IntKind) (n : Int) : MapKept.IsKey (.int k) (.int k n) := rfl
theorem check_int {P : Program} {kt : TypeId} {k : IntKind} (hk : P.underlying kt = some (.int k)) (n : Int) (em : Bool) (w : World) : (Instr.checkKey em 10000 kt (.int k n)).run P w = .ok () w := MapKept.run_checkKey hk (isKey_int k n) em 9999
theorem rep_int_eq {k : IntKind} {n : Int} {v : Value} (h : Rep c.L I w E (.int k n) v) : v = .int k n := by cases h; rfl
/-- Flat cells that are compared: equal, if and only if their values are. -/
theorem eqCells_iff {cs ds : List (AVal El)} {vs us : List Value} {b : Bool} (h : eqCells cs ds = some b) (hc : Reps c.L I w E cs vs) (hd : Reps c.L I w E ds us) : b = true ↔ vs = us := by
  induction cs generalizing ds vs us b with
  | nil =>
    cases ds with
    | nil => rw [hc.inv_nil, hd.inv_nil]; simp [eqCells] at h; simp [← h]
    | cons d ds => simp [eqCells] at h
  | cons a cs ih =>
    cases ds with
    | nil => cases a <;> simp [eqCells] at h
    | cons d ds =>
      obtain ⟨v, vs', rfl, h1, h2⟩ := hc.inv_cons
      obtain ⟨u, us', rfl, h3, h4⟩ := hd.inv_cons
      unfold eqCells at h
      split at h <;> try (simp at *; done)
      · rename_i q1 q2
        cases q1; cases q2
        split at h
        · rename_i hk
          subst hk
          simp only [Option.map_eq_some_iff] at h
          obtain ⟨r, g1, g2⟩ := h
          have := ih g1 h2 h4
          cases h1; cases h3
          subst g2
          simp [this]
        · cases h
      · rename_i q1 q2
        cases q1; cases q2
        simp only [Option.map_eq_some_iff] at h
        obtain ⟨r, g1, g2⟩ := h
        have := ih g1 h2 h4
        cases h1; cases h3
        subst g2
        simp [this]
theorem eqKey_iff {a a' : AVal El} {v v' : Value} {b : Bool} (h : eqKey a a' = some b) (ha : Rep c.L I w E a v) (ha' : Rep c.L I w E a' v') : b = true ↔ v = v' := by
  unfold eqKey at h
  split at h
  · split at h
    · rename_i hk
      subst hk
      cases h; cases ha; cases ha'
      simp
    · cases h
  · cases ha with
    | agg hl hh h1 =>
      cases ha' with
      | agg hl' hh' h1' =>
        have := eqCells_iff h ⟨hl, hh⟩ ⟨hl', hh'⟩
        rw [this]
        simp
  · cases h
/-- What stands for an entry. -/
theorem entL_mem {cs : List (AVal El)} {l : List MapEntry} (hc : Reps c.L I w E cs (entL l)) {kt : TypeId} (hs : shpE c kt cs = true) {key : AVal El} (he : eqAll key cs = true) {q : MapEntry} (hq : q ∈ l) :
    ∃ ka b, shpK c kt ka = true ∧ Rep c.L I w E ka q.key ∧ eqKey key ka = some b := by
  induction l generalizing cs with
  | nil => cases hq
  | cons q' l ih =>
    match cs with
    | [] => have := hc.len; simp [entL] at this
    | [_] => have := hc.len; simp [entL] at this
    | a :: v :: cs =>
      obtain ⟨va, vs', e1, h1, h2⟩ := hc.inv_cons
      obtain ⟨vv, vs'', e2, h3, h4⟩ := h2.inv_cons
      subst e2
      simp only [entL, List.cons.injEq] at e1
      obtain ⟨rfl, rfl, rfl⟩ := e1
      simp only [shpE, Bool.and_eq_true] at hs
      simp only [eqAll, Bool.and_eq_true] at he
      rcases List.mem_cons.1 hq with rfl | hq
      · have := he.1
        split at this
        · rename_i b hb; exact ⟨a, b, hs.1, h1, hb⟩
        · cases this
      · exact ih h4 hs.2 he.2 hq
/-- What a look-up comes to, entry by entry. -/
theorem lookC_spec {key : AVal El} {vk : Value} (hk : Rep c.L I w E key vk) {ok : Bool} {z y : AVal El} {cs : List (AVal El)} {l : List MapEntry} (hc : Reps c.L I w E cs (entL l)) (ho : (lookC ok z key cs).Out y) :
    (y = packL ok z false ∧ ∀ q ∈ l, q.key ≠ vk) ∨ ∃ q x, q ∈ l ∧ q.key = vk ∧ Rep c.L I w E x q.val ∧ y = packL ok x true := by
  induction l generalizing cs with
  | nil =>
    cases cs with
    | nil => exact .inl ⟨ho.symm, fun q hq => by cases hq⟩
    | cons a cs => have := hc.len; simp [entL] at this
  | cons q l ih =>
    match cs with
    | [] => have := hc.len; simp [entL] at this
    | [_] => have := hc.len; simp [entL] at this
    | a :: v :: cs =>
      obtain ⟨va, vs', e1, h1, h2⟩ := hc.inv_cons
      obtain ⟨vv, vs'', e2, h3, h4⟩ := h2.inv_cons
      subst e2
      simp only [entL, List.cons.injEq] at e1
      obtain ⟨rfl, rfl, rfl⟩ := e1
      simp only [lookC] at ho
      split at ho
      · rename_i b hb
        have hiff := eqKey_iff hb hk h1
        simp only [Tree.Out] at ho
        rcases ho with ⟨hbt, ho⟩ | ⟨hbf, ho⟩
        · exact .inr ⟨q, v, List.mem_cons_self .., (hiff.1 hbt).symm, h3, ho.symm⟩
        · rcases ih h4 ho with ⟨g1, g2⟩ | ⟨q', x, g1, g2⟩
          · refine .inl ⟨g1, fun q' hq' => ?_⟩
            rcases List.mem_cons.1 hq' with rfl | hq'
            · intro he; rw [hiff.2 he.symm] at hbf; cases hbf
            · exact g2 q' hq'
          · exact .inr ⟨q', x, List.mem_cons_of_mem _ g1, g2⟩
      · exact ho.elim
theorem shpV_one {vs : List Value} {s : List Bool} (h : shpV vs s = true) : ∀ v ∈ vs, v.oneCell' = true := by
  induction vs generalizing s with
  | nil => intro v hv; cases hv
  | cons x vs ih =>
    intro v hv
    cases s with
    | nil => cases x <;> simp [shpV] at h
    | cons b s =>
      cases x <;> cases b <;> simp [shpV] at h
      all_goals
        rcases List.mem_cons.1 hv with rfl | hv
        · rfl
        · exact ih h v hv
theorem ask_spec {kt : TypeId} {ks : List (AVal El)} {vs : List Value} {s : List Bool} (hs0 : c.eqT kt = some s) (hks : Reps c.L I w E ks vs) (hsh : shpC ks s = true) {l : List MapEntry}
    (hl : ∀ q ∈ l, ∃ ka b, Rep c.L I w E ka q.key ∧ eqKey (.agg ks) ka = some b) (i : Nat) :
    ((Instr.findAsking kt (.agg vs.toArray) l i).run c.P w = .ok none w ∧ ∀ q ∈ l, q.key ≠ .agg vs.toArray) ∨ ∃ j q, (Instr.findAsking kt (.agg vs.toArray) l i).run c.P w = .ok (some (i + j, q.val)) w ∧ l[j]? = some q ∧ q.key = .agg vs.toArray := by
  induction l generalizing i with
  | nil => exact .inl ⟨by simp [Instr.findAsking], fun q hq => by cases hq⟩
  | cons q l ih =>
    obtain ⟨ka, b, h1, hb⟩ := hl q (List.mem_cons_self ..)
    obtain ⟨ds, rfl, hb'⟩ := eqKey_agg hb
    have hiff := eqKey_iff hb (Rep.agg hks.len hks.at_ (shpV_one (shpC_ok hsh hks))) h1
    generalize hqk : q.key = kv at h1 hiff
    cases h1 with
    | agg hl' hh h1 =>
      rename_i us
      have hv := eqCells_ok hb' hks ⟨hl', hh⟩
      have hr := run_equal_of_bin (c.eq_ok kt s hs0 vs us b hv (shpC_ok hsh hks) w (.const (.bool true)) (.const (.bool true))).2.2.1
      cases b with
      | true => exact .inr ⟨0, q, by simp [Instr.findAsking, hqk, hr, Result.andThen], rfl, by rw [hqk]; exact (hiff.1 rfl).symm⟩
      | false =>
        have hne : q.key ≠ .agg vs.toArray := fun he => by rw [hqk] at he; have := hiff.2 he.symm; cases this
        rcases ih (fun q' hq' => hl q' (List.mem_cons_of_mem _ hq')) (i + 1) with ⟨g1, g2⟩ | ⟨j, q', g1, g2, g3⟩
        · refine .inl ⟨by simp [Instr.findAsking, hqk, hr, Result.andThen, g1], fun q' hq' => ?_⟩
          rcases List.mem_cons.1 hq' with rfl | hq'
          · exact hne
          · exact g2 q' hq'
        · exact .inr ⟨j + 1, q', by simp [Instr.findAsking, hqk, hr, Result.andThen, g1]; omega, by simpa using g2, g3⟩
/-- A search over entries whose keys can be compared. -/
theorem find_spec {kt : TypeId} {key : AVal El} {vk : Value} (hs : shpK c kt key = true) (hk : Rep c.L I w E key vk) : (∀ em, (Instr.checkKey em 10000 kt vk).run c.P w = .ok () w) ∧
    ∀ {l : List MapEntry}, (∀ q ∈ l, ∃ ka b, shpK c kt ka = true ∧ Rep c.L I w E ka q.key ∧ eqKey key ka = some b) →
      ((Instr.findKey kt vk l).run c.P w = .ok none w ∧ ∀ q ∈ l, q.key ≠ vk) ∨ ∃ j q, (Instr.findKey kt vk l).run c.P w = .ok (some (j, q.val)) w ∧ l[j]? = some q ∧ q.key = vk := by
  unfold shpK at hs
  split at hs
  · rename_i k n
    split at hs
    · rename_i k' hu
      have : k' = k := of_decide_eq_true hs
      subst this
      cases hk
      refine ⟨fun em => check_int hu n em w, fun {l} hl => ?_⟩
      have hkeys : ∀ x ∈ l, MapKept.IsKey (.int k') x.key := fun x hx => by
        obtain ⟨ka, b, _, h1, h2⟩ := hl x hx
        obtain ⟨m, rfl, _⟩ := eqKey_int h2
        rw [rep_int_eq h1]; exact isKey_int _ _
      rcases MapKept.findNow_spec (isKey_int k' n) l 0 hkeys with ⟨h1, h2⟩ | ⟨j, e, h1, h2, h3⟩
      · exact .inl ⟨MapKept.run_findKey hu h1, h2⟩
      · exact .inr ⟨0 + j, e, MapKept.run_findKey hu h1, by simpa using h2, h3⟩
    · cases hs
  · rename_i ks
    split at hs
    · rename_i s hs0
      simp only [Bool.and_eq_true] at hs
      cases hk with
      | agg hl hh h1 =>
        rename_i vs
        obtain ⟨g1, g2⟩ := c.key_ok kt hs.1
        refine ⟨fun em => g2 s hs0 vs (shpC_ok hs.2 ⟨hl, hh⟩) em w, fun {l} hq => ?_⟩
        rcases ask_spec hs0 ⟨hl, hh⟩ hs.2 (fun q hq' => by obtain ⟨ka, b, _, k1, k2⟩ := hq q hq'; exact ⟨ka, b, k1, k2⟩) 0 with ⟨f1, f2⟩ | ⟨j, q, f1, f2, f3⟩
        · exact .inl ⟨by rw [run_findKey_eq w g1]; exact f1, f2⟩
        · exact .inr ⟨0 + j, q, by rw [run_findKey_eq w g1]; exact f1, by simpa using f2, f3⟩
    · cases hs
  · cases hs
theorem nodup_key {l : List MapEntry} (h : (l.map (·.key)).Nodup) {q q' : MapEntry} (h1 : q ∈ l) (h2 : q' ∈ l) (he : q.key = q'.key) : q = q' := by
  induction l with
  | nil => cases h1
  | cons a l ih =>
    simp only [List.map_cons, List.nodup_cons] at h
    rcases List.mem_cons.1 h1 with e1 | k1
    · rcases List.mem_cons.1 h2 with e2 | k2
      · exact e1.trans e2.symm
      · exact absurd (List.mem_map.2 ⟨q', k2, by rw [← he, e1]⟩) h.1
    · rcases List.mem_cons.1 h2 with e2 | k2
      · exact absurd (List.mem_map.2 ⟨q, k1, by rw [he, e2]⟩) h.1
      · exact ih h.2 k1 k2
theorem aLookup_ok (hr : HR c.L I w E R) {t : TypeId} {a key y : AVal El} {ok : Bool} {va vk : Value} (ha : Rep c.L I w E a va) (hk : Rep c.L I w E key vk) (ho : (aLookup c R t a key ok).Out y) :
    ∃ u, (Instr.lookup t va vk ok).run c.P w = .ok u w ∧ Rep c.L I w E y u := by
  unfold aLookup at ho
  split at ho
  · rename_i kt et hu
    split at ho
    · rename_i z hz
      have hzr := run_zeroAt hz w
      split at ho
      · split at ho
        · rename_i hs
          split at ho
          · rename_i k n
            simp only [Tree.Out] at ho; subst ho
            cases ha
            obtain ⟨g1, g2⟩ := find_spec hs hk
            rcases g2 (l := []) (fun q hq => by cases hq) with ⟨g3, _⟩ | ⟨j, q, _, g3, _⟩
            · exact ⟨_, by simp [Instr.lookup, run_underlying hu, g1, g3, hzr, Result.andThen], packL_ok (absV_ok z)⟩
            · simp at g3
          · exact ho.elim
        · exact ho.elim
      · rename_i r
        split at ho
        · rename_i k t' m hg
          split at ho
          · rename_i k1 n k2 hku
            split at ho
            · rename_i hcond
              obtain ⟨rfl, rfl, rfl, hkn, hsz, hza⟩ := hcond
              simp only [Tree.Out] at ho; subst ho
              obtain ⟨e, b, arr, clock, g1, g2, rfl, g3, g4⟩ := mapS_at hr hg ha
              cases hk
              have hck := fun em => check_int hku n em w
              rcases g4.find n 0 with ⟨f1, f2, f3, _, _⟩ | ⟨j, q, x, f1, f2, f3, f4, f5, f6, _, _⟩
              · refine ⟨_, by simp [Instr.lookup, run_underlying hu, MapKept.run_getObj_map g3, hck, MapKept.run_findKey hku f1, hzr, Result.andThen]; rfl, ?_⟩
                rw [f3]
                refine packL_ok ?_
                simp only [getM, f2]
                obtain ⟨z', q1, q2, q3⟩ := c.zero_ok _ hkn
                rw [hz] at q1; cases q1
                obtain ⟨v, q4, q5, q6⟩ := q3 0 (by omega)
                obtain ⟨a0, ha0⟩ := enc_one hsz (c.L.dflt t')
                have q7 := q6 I w a0 (by rw [ha0]; rfl)
                have hzv : v = z := by
                  cases z <;> simp_all [notAgg, Value.cells]
                rw [ha0]
                subst hzv
                exact q7.mono (fun _ h => h) (fun _ _ => rfl) (fun r e h => by cases h)
              · refine ⟨_, by simp [Instr.lookup, run_underlying hu, MapKept.run_getObj_map g3, hck, MapKept.run_findKey hku f1, Result.andThen]; rfl, ?_⟩
                rw [f5]
                refine packL_ok ?_
                simp only [getM, f4]
                obtain ⟨a0, ha0⟩ := enc_one hsz x
                rw [ha0]
                exact (f6 a0 ha0).1.mono (fun _ h => h.elim) (fun _ h => h.elim) (fun r e h => by cases h)
            · exact ho.elim
          · exact ho.elim
        · rename_i cs hg
          split at ho
          · rename_i hs
            simp only [Bool.and_eq_true] at hs
            obtain ⟨e, b, arr, clock, l, g1, g2, rfl, g3, g4, g5, g6⟩ := mapC_at hr hg ha
            obtain ⟨k1, k2⟩ := find_spec hs.1 hk
            have hmem : ∀ q ∈ arr.toList, ∃ ka b, shpK c kt ka = true ∧ Rep c.L I w E ka q.key ∧ eqKey key ka = some b := fun q hq => entL_mem g4 hs.2.1 hs.2.2 (g5.mem_iff.2 hq)
            rcases lookC_spec hk g4 ho with ⟨q1, q2⟩ | ⟨q, x, q1, q2, q3, q4⟩
            · rcases k2 hmem with ⟨k3, _⟩ | ⟨j, q', _, k4, k5⟩
              · exact ⟨_, by simp [Instr.lookup, run_underlying hu, MapKept.run_getObj_map g3, k1, k3, hzr, Result.andThen]; rfl, by rw [q1]; exact packL_ok (absV_ok z)⟩
              · exact absurd k5 (q2 q' (g5.mem_iff.2 (List.mem_of_getElem? k4)))
            · rcases k2 hmem with ⟨_, k4⟩ | ⟨j, q', k3, k4, k5⟩
              · exact absurd q2 (k4 q (g5.mem_iff.1 q1))
              · have hqq : q' = q := nodup_key g6 (g5.mem_iff.2 (List.mem_of_getElem? k4)) q1 (k5.trans q2.symm)
                subst hqq
                exact ⟨_, by simp [Instr.lookup, run_underlying hu, MapKept.run_getObj_map g3, k1, k3, Result.andThen]; rfl, by rw [q4]; exact packL_ok q3⟩
          · exact ho.elim
        · exact ho.elim
      · exact ho.elim
    · exact ho.elim
  · exact ho.elim
theorem newC_out {X : Type} {key : AVal El} {y0 y : X} {cs : List (AVal El)} (h : (newC key y0 cs).Out y) : y = y0 ∧ ∀ (ok : Bool) (z : AVal El), (lookC ok z key cs).Out (packL ok z false) := by
  match cs, h with
  | [], h => exact ⟨h.symm, fun ok z => rfl⟩
  | [_], h => exact h.elim
  | k :: v :: l, h =>
    simp only [newC] at h
    split at h
    · rename_i b hb
      simp only [Tree.Out] at h
      rcases h with ⟨_, h⟩ | ⟨h0, h⟩
      · exact h.elim
      · obtain ⟨g1, g2⟩ := newC_out h
        refine ⟨g1, fun ok z => ?_⟩
        simp only [lookC, hb, Tree.Out]
        exact .inr ⟨h0, g2 ok z⟩
    · exact h.elim
theorem entL_snoc (l : List MapEntry) (q : MapEntry) : entL (l ++ [q]) = entL l ++ [q.key, q.val] := by
  induction l with
  | nil => rfl
  | cons a l ih => simp [entL, ih]
theorem post_write (hr : HR c.L I w E R) {r : Nat} {e : REnv} {b : Nat} {o o' : Obj} (hg : getR R r ≠ .dead) (he : E r = some e) (hb : e.blk = some b) (ho : w.heap[b]? = some o) (x : Res El) (hxd : x ≠ .dead) {base : Nat} {y : AVal El} {v : Value}
    (hx : (∀ k, I k → (w.heap.setIfInBounds b o')[k]? = w.heap[k]?) → HRes c.L I { w with heap := w.heap.setIfInBounds b o' } E e x) (hy : Rep c.L I { w with heap := w.heap.setIfInBounds b o' } E y v) :
    Post c.L I E R w base [(r, x)] y v { w with heap := w.heap.setIfInBounds b o' } I E := by
  have hI : ∀ k, I k → (w.heap.setIfInBounds b o')[k]? = w.heap[k]? := fun k hk => (MapKept.heap_set ho).2 k (fun hkb => hr.notI b ⟨r, e, hg, he, hb⟩ (hkb ▸ hk))
  obtain ⟨h1, h2⟩ := hr.write (w' := { w with heap := w.heap.setIfInBounds b o' }) hg he hb x hxd rfl rfl rfl (by simp) (fun k hk => (MapKept.heap_set ho).2 k hk) (hx hI)
  exact ⟨h2, h1, hy, fun _ _ => rfl⟩
theorem flat_one {a : AVal El} {v : Value} (h : Rep c.L I w E a v) (hf : flatA a = true) : v.oneCell' = true := by
  cases h <;> first | (simp [flatA] at hf; done) | rfl
theorem aUpdate_ok (hr : HR c.L I w E R) {base : Nat} {t : TypeId} {a key x : AVal El} {y : Eff El} {va vk vx : Value} (ha : Rep c.L I w E a va) (hk : Rep c.L I w E key vk) (hx : Rep c.L I w E x vx) (ho : (aUpdate c R t a key x).Out y) :
    ∃ w' I' E', (Instr.mapUpdate t va vk vx).run c.P w = .ok () w' ∧ Post c.L I E R w base y.2 y.1 undef w' I' E' := by
  unfold aUpdate at ho
  split at ho
  · rename_i kt et hu
    split at ho
    · rename_i r
      split at ho
      · rename_i k t' m hg
        split at ho
        · rename_i k1 n k2 hku
          split at ho
          · rename_i hcond
            obtain ⟨rfl, rfl, hfl, hsz⟩ := hcond
            split at ho
            · rename_i v hdec
              simp only [Tree.Out] at ho; subst ho
              obtain ⟨e, b, arr, clock, g1, g2, rfl, g3, g4⟩ := mapS_at hr hg ha
              have henc := c.L.dec_enc _ _ _ hdec
              have hflx : flatA x = true := by
                have := c.flat_ok t' hfl v
                rw [henc] at this
                simpa [flatL] using this
              have hval : ∀ (w' : World), ∀ a0, c.L.enc t' v = [a0] → Rep c.L (fun _ => False) w' noE a0 vx ∧ vx.oneCell' = true := fun w' a0 ha0 => by
                rw [henc] at ha0; cases ha0
                exact ⟨hx.flat hflx, flat_one hx hflx⟩
              cases hk
              have hck := fun em => check_int hku n em w
              rcases g4.find n 0 with ⟨f1, _, _, f2, _⟩ | ⟨j, q, x0, f1, f2, f3, _, _, _, f4, _⟩
              · refine ⟨_, I, E, by simp [Instr.mapUpdate, run_underlying hu, MapKept.run_getObj_map g3, hck, MapKept.run_findKey hku f1, MapKept.run_setObj_map _ g3, Result.andThen]; rfl, ?_⟩
                refine post_write hr (by rw [hg]; simp) g1 g2 g3 _ (by simp) (fun _ => ⟨b, _, _, g2, (MapKept.heap_set g3).1, ?_⟩) .top
                rw [f2 v, Array.toList_push]
                exact (g4.snoc (p := (n, v)) ⟨rfl, hval _⟩).mono
              · have hj : arr[j]? = some q := by simpa using f2
                have hkt := MapKept.run_keyThatStays (P := c.P) (w := w) (isKey_int k2 n)
                refine ⟨_, I, E, by simp [Instr.mapUpdate, run_underlying hu, MapKept.run_getObj_map g3, hck, MapKept.run_findKey hku f1, hj, f3, hkt, MapKept.run_setObj_map _ g3, Result.andThen]; rfl, ?_⟩
                refine post_write hr (by rw [hg]; simp) g1 g2 g3 _ (by simp) (fun _ => ⟨b, _, _, g2, (MapKept.heap_set g3).1, ?_⟩) .top
                rw [f4 v, Array.toList_modify]
                exact (g4.set (p := (n, v)) (fun q' _ => ⟨rfl, hval _⟩)).mono
            · exact ho.elim
          · exact ho.elim
        · exact ho.elim
      · rename_i cs hg
        split at ho
        · rename_i hs
          simp only [Bool.and_eq_true] at hs
          obtain ⟨rfl, h2⟩ := newC_out ho
          obtain ⟨e, b, arr, clock, l, g1, g2, rfl, g3, g4, g5, g6⟩ := mapC_at hr hg ha
          obtain ⟨k1, k2⟩ := find_spec hs.1 hk
          have hmem : ∀ q ∈ arr.toList, ∃ ka b, shpK c kt ka = true ∧ Rep c.L I w E ka q.key ∧ eqKey key ka = some b := fun q hq => entL_mem g4 hs.2.1 hs.2.2 (g5.mem_iff.2 hq)
          rcases lookC_spec hk g4 (h2 true .nilp) with ⟨_, q2⟩ | ⟨q, x', _, _, _, q4⟩
          · rcases k2 hmem with ⟨k3, _⟩ | ⟨j, q', _, k4, k5⟩
            · refine ⟨_, I, E, by simp [Instr.mapUpdate, run_underlying hu, MapKept.run_getObj_map g3, k1, k3, MapKept.run_setObj_map _ g3, Result.andThen]; rfl, ?_⟩
              refine post_write hr (by rw [hg]; simp) g1 g2 g3 _ (by simp) (fun hI => ⟨b, _, _, l ++ [⟨vk, vx, clock⟩], g2, (MapKept.heap_set g3).1, ?_, ?_, ?_⟩) .top
              · rw [entL_snoc]
                exact (g4.append (Reps.cons hk (Reps.cons hx Reps.nil))).mono (fun _ h => h) hI (Env.le_refl _)
              · rw [Array.toList_push]; exact g5.append_right _
              · rw [List.map_append, List.nodup_append]
                refine ⟨g6, by simp, fun a ha b hb => ?_⟩
                simp at hb; subst hb
                obtain ⟨q, hq, rfl⟩ := List.mem_map.1 ha
                exact q2 q hq
            · exact absurd k5 (q2 q' (g5.mem_iff.2 (List.mem_of_getElem? k4)))
          · simp [packL] at q4
        · exact ho.elim
      · exact ho.elim
    · exact ho.elim
  · exact ho.elim
theorem aDelete_ok (hr : HR c.L I w E R) {base : Nat} {t kt0 ty : TypeId} {a key : AVal El} {y : Eff El} {va vk : Value} (ha : Rep c.L I w E a va) (hk : Rep c.L I w E key vk) (ho : (aDelete c R t a key).Out y) :
    ∃ u w' I' E', (Builtin.delete_ #[t, kt0] ty #[va, vk]).run c.P w = .ok u w' ∧ Post c.L I E R w base y.2 y.1 u w' I' E' := by
  unfold aDelete at ho
  split at ho
  · rename_i kt et hu
    split at ho
    · rename_i r
      split at ho
      · rename_i k t' m hg
        split at ho
        · rename_i k1 n k2 hku
          split at ho
          · rename_i hcond
            obtain ⟨rfl, rfl⟩ := hcond
            simp only [Tree.Out] at ho; subst ho
            obtain ⟨e, b, arr, clock, g1, g2, rfl, g3, g4⟩ := mapS_at hr hg ha
            cases hk
            have hck := fun em => check_int hku n em w
            have htup : ∀ w' : World, Rep c.L I w' E (.tup []) (.tuple #[]) := fun w' => .tup (vs := []) rfl (fun i c' v' hc => by simp at hc)
            rcases g4.find n 0 with ⟨f1, _, _, _, f2⟩ | ⟨j, q, x0, f1, f2, f3, _, _, _, _, f4⟩
            · refine ⟨_, _, I, E, by simp [Builtin.delete_, run_underlying hu, MapKept.run_getObj_map g3, hck, MapKept.run_findKey hku f1, MapKept.run_setObj_map _ g3, Result.andThen]; exact ⟨rfl, rfl⟩, ?_⟩
              refine post_write hr (by rw [hg]; simp) g1 g2 g3 _ (by simp) (fun _ => ⟨b, _, _, g2, (MapKept.heap_set g3).1, ?_⟩) (htup _)
              rw [f2]; exact g4.mono
            · refine ⟨_, _, I, E, by simp [Builtin.delete_, run_underlying hu, MapKept.run_getObj_map g3, hck, MapKept.run_findKey hku f1, MapKept.run_setObj_map _ g3, Result.andThen]; exact ⟨rfl, rfl⟩, ?_⟩
              refine post_write hr (by rw [hg]; simp) g1 g2 g3 _ (by simp) (fun _ => ⟨b, _, _, g2, (MapKept.heap_set g3).1, ?_⟩) (htup _)
              have hjl : j < arr.size := by
                have := (List.getElem?_eq_some_iff.1 f2).1; simpa using this
              have e1 : (arr.eraseIdxIfInBounds j).toList = arr.toList.eraseIdx j := by
                unfold Array.eraseIdxIfInBounds; rw [dif_pos hjl]; simp
              rw [f4]
              first | rw [e1] | rw [Nat.zero_add, e1]
              exact (g4.erase j).mono
          · exact ho.elim
        · exact ho.elim
      · exact ho.elim
    · exact ho.elim
  · exact ho.elim
theorem aMakeMap_ok (hr : HR c.L I w E R) {base : Nat} {t : TypeId} {y : Eff El} (hb : E base = none) (ho : (aMakeMap c base t).Out y) :
    ∃ u w' I' E', (Instr.makeMap t none).run c.P w = .ok u w' ∧ Post c.L I E R w base y.2 y.1 u w' I' E' := by
  have hrun : (Instr.makeMap t none).run c.P w = .ok (.map (some w.heap.size)) (w.alloc (.map #[] 0)) := by simp [Instr.makeMap, Result.andThen]
  have hat := (MapKept.heap_alloc w (.map #[] 0)).1
  have core : ∀ x : Res El, (∀ E' : Env, HRes c.L I (w.alloc (.map #[] 0)) E' ⟨some w.heap.size, .map (some w.heap.size)⟩ x) → Post c.L I E R w base [(base, x)] (.mapr base) (.map (some w.heap.size)) (w.alloc (.map #[] 0)) I (E.put base ⟨some w.heap.size, .map (some w.heap.size)⟩) := fun x hx => by
    obtain ⟨h1, h2⟩ := hr.add hb ⟨some w.heap.size, .map (some w.heap.size)⟩ x (Fr.alloc w _) (hx _) (fun b hb => by cases hb; exact Nat.le_refl _)
    refine ⟨h2, h1, .mapr (Env.put_same _ _ _), fun r hn => ?_⟩
    by_cases hr' : r = base
    · subst hr'; have := hn x (List.mem_singleton.2 rfl); omega
    · exact Env.put_ne E _ hr'
  unfold aMakeMap at ho
  split at ho
  · split at ho
    · simp only [Tree.Out] at ho; subst ho
      exact ⟨_, _, I, _, hrun, core _ (fun E' => ⟨_, #[], 0, rfl, hat, trivial⟩)⟩
    · simp only [Tree.Out] at ho; subst ho
      exact ⟨_, _, I, _, hrun, core _ (fun E' => ⟨_, #[], 0, [], rfl, hat, Reps.nil, List.Perm.refl _, List.nodup_nil⟩)⟩
  · exact ho.elim
theorem aLenM_ok (h : HR c.L I w E R) {t ty : TypeId} {x r : AVal El} {v : Value} (hx : Rep c.L I w E x v) (ho : (aLenM c R t x).Out r) :
    ∃ u, (Builtin.len_ #[t] ty #[v]).run c.P w = .ok u w ∧ Rep c.L I w E r u := by
  unfold aLenM at ho
  split at ho
  · split at ho
    · rename_i kt et k t' m hu hg
      simp only [Tree.Out] at ho; subst ho
      obtain ⟨e, b, arr, clock, g1, g2, rfl, g3, g4⟩ := mapS_at h hg hx
      have := g4.len
      have e1 : arr.size = m.length := by simpa using this
      exact ⟨_, by simp [Builtin.len_, run_underlying hu, MapKept.run_getObj_map g3, Result.andThen]; rfl, by rw [e1]; exact .int⟩
    · exact ho.elim
  · exact aLen_ok h hx ho
end proofs
end Go.Ax
end
