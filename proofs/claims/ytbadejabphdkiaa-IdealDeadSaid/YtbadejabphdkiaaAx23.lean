/- A verified symbolic executor, part 23: arguments, as a statement hands them, stand for abstract values; a row out of an executed function. Over any program; no condition. -/
import Derived.Test.YtbadejabphdkiaaAx22
import Derived.WalkKit
import Derived.ProofKit
import Derived.OpenShut
import Derived.ShutString
import Derived.ChangeOld
import Derived.Below
import Derived.SizedLaws
import Derived.Carry
set_option linter.unusedVariables false
set_option linter.unusedSimpArgs false
namespace Go.Ax
open Go.ChangeShapes Go.RowKit
variable {El : TypeId → Type}

def Old (w : World) (b : Nat) : Prop := b < w.heap.size

section
variable {P : Program} {L : Lay El}

/-- A type's cells, read as data, stand for a code's. -/
def Opn (P : Program) (L : Lay El) (t : TypeId) {α : Type} (d : Cd El α) (ok : α → Prop) : Prop :=
  ∀ (H : Type) (enc : TypeId × Value → H) (w : World) (fuel : Nat) (cs : List Value) (x : DataW H × List MemPlace), DataW.trod enc P w 0 (fun _ => true) true fuel t cs = some x →
    ∃ a, Reps L (Old w) w noE (d.enc a) cs ∧ (∀ v ∈ cs, v.oneCell' = true) ∧ ok a

/-- Parts that lie one behind the other. -/
def OpnF (P : Program) (L : Lay El) (fs : List (Nat × TypeId)) (o n : Nat) {α : Type} (d : Cd El α) (ok : α → Prop) : Prop :=
  ∀ (H : Type) (enc : TypeId × Value → H) (w : World) (fuel : Nat) (cs : List Value), cs.length = n →
    (∀ f ∈ fs, ∃ x, DataW.trod enc P w 0 (fun _ => true) true fuel f.2 ((cs.drop f.1).take (P.cellsOf f.2)) = some x) →
    ∃ a, Reps L (Old w) w noE (d.enc a) (cs.drop o) ∧ (∀ v ∈ cs.drop o, v.oneCell' = true) ∧ ok a

theorem Opn.int {t : TypeId} {k : IntKind} (ht : P.underlying t = some (.int k)) : Opn P L t (Cd.int k) (fun n => (Lit.int k n).wf = true) := by
  intro H enc w fuel cs x h
  obtain ⟨n, rfl, _, hw⟩ := DataW.trod_int ht h
  exact ⟨n, Reps.cons .int Reps.nil, by simp [Value.oneCell'], hw⟩
theorem Opn.bool {t : TypeId} (ht : P.underlying t = some .bool) : Opn P L t Cd.bool (fun _ => True) := by
  intro H enc w fuel cs x h
  obtain ⟨b, rfl, _⟩ := DataW.trod_bool ht h
  exact ⟨b, Reps.cons .bool Reps.nil, by simp [Value.oneCell'], trivial⟩
theorem Opn.iso {t : TypeId} {α β : Type} {d : Cd El α} {ok : α → Prop} (h : Opn P L t d ok) (f : α → β) (g : β → α) (hg : ∀ x, g (f x) = x) : Opn P L t (d.iso f g hg) (fun b => ok (g b)) := by
  intro H enc w fuel cs x hx
  obtain ⟨a, h1, h2, h3⟩ := h H enc w fuel cs x hx
  exact ⟨f a, by simpa only [Cd.iso, hg] using h1, h2, by show ok (g (f a)); rw [hg]; exact h3⟩
theorem OpnF.last {t : TypeId} {o n : Nat} {α : Type} {d : Cd El α} {ok : α → Prop} (h : Opn P L t d ok) (hn : n = o + P.cellsOf t) : OpnF P L [(o, t)] o n d ok := by
  intro H enc w fuel cs hl hf
  obtain ⟨x, hx⟩ := hf (o, t) (by simp)
  have e : (cs.drop o).take (P.cellsOf t) = cs.drop o := List.take_of_length_le (by simp; omega)
  simp only at hx
  rw [e] at hx
  exact h H enc w fuel _ x hx
theorem OpnF.cons {t : TypeId} {fs : List (Nat × TypeId)} {o o' n : Nat} {α β : Type} {d : Cd El α} {d' : Cd El β} {ok : α → Prop} {ok' : β → Prop} (h : Opn P L t d ok) (ho : o' = o + P.cellsOf t) (hs : OpnF P L fs o' n d' ok') :
    OpnF P L ((o, t) :: fs) o n (d.pair d') (fun a => ok a.1 ∧ ok' a.2) := by
  intro H enc w fuel cs hl hf
  obtain ⟨x, hx⟩ := hf (o, t) (by simp)
  obtain ⟨a, a1, a2, a3⟩ := h H enc w fuel _ x hx
  obtain ⟨b, b1, b2, b3⟩ := hs H enc w fuel cs hl (fun f hf' => hf f (by simp [hf']))
  have e : cs.drop o = (cs.drop o).take (P.cellsOf t) ++ cs.drop o' := by
    rw [ho, ← List.drop_drop, List.take_append_drop]
  refine ⟨(a, b), ?_, ?_, a3, b3⟩
  · rw [e]; exact a1.append b1
  · intro v hv
    rw [e] at hv
    rcases List.mem_append.1 hv with hv | hv
    · exact a2 v hv
    · exact b2 v hv
theorem OpnF.iso {fs : List (Nat × TypeId)} {o n : Nat} {α β : Type} {d : Cd El α} {ok : α → Prop} (h : OpnF P L fs o n d ok) (f : α → β) (g : β → α) (hg : ∀ x, g (f x) = x) : OpnF P L fs o n (d.iso f g hg) (fun b => ok (g b)) := by
  intro H enc w fuel cs hl hf
  obtain ⟨a, h1, h2, h3⟩ := h H enc w fuel cs hl hf
  exact ⟨f a, by simpa only [Cd.iso, hg] using h1, h2, by show ok (g (f a)); rw [hg]; exact h3⟩
theorem Opn.struct {t : TypeId} {fs : Array Field} (ht : P.underlying t = some (.struct fs)) {α : Type} {d : Cd El α} {ok : α → Prop} (h : OpnF P L (fs.toList.map fun f => (f.offset, f.type)) 0 (P.cellsOf t) d ok) : Opn P L t d ok := by
  intro H enc w fuel cs x hx
  obtain ⟨xs, n, rfl, _, hl, hlen, hat⟩ := DataW.trod_struct ht hx
  have := h H enc w n cs hl (fun f hf => by
    obtain ⟨g, hg, rfl⟩ := List.mem_map.1 hf
    obtain ⟨i, hi, hgi⟩ := List.getElem_of_mem hg
    have hi' : i < fs.size := by simpa using hi
    have h1 := hat i g (by rw [Array.getElem?_eq_getElem hi']; simpa using hgi)
    rw [List.getElem?_eq_getElem (by omega)] at h1
    exact ⟨_, h1⟩)
  simpa using this
theorem Opn.array {t e : TypeId} {n : Nat} (ht : P.underlying t = some (.array n e)) {α : Type} {d : Cd El α} {ok : α → Prop} (h : OpnF P L ((List.range n).map fun i => (i * P.cellsOf e, e)) 0 (P.cellsOf t) d ok) : Opn P L t d ok := by
  intro H enc w fuel cs x hx
  obtain ⟨xs, m, rfl, _, hl, hlen, hat⟩ := DataW.trod_array ht hx
  have := h H enc w m cs hl (fun f hf => by
    obtain ⟨i, hi, rfl⟩ := List.mem_map.1 hf
    have hi' : i < n := by simpa using hi
    have h1 := hat i hi'
    rw [List.getElem?_eq_getElem (by omega)] at h1
    exact ⟨_, h1⟩)
  simpa using this

theorem cell_heap {w : World} {a : Addr} {v : Value} (h : w.cell? a = some v) : a.spot = none ∧ ∃ cells ty fz, w.heap[a.block]? = some (.cells cells ty fz) ∧ cells[a.off]? = some v := by
  unfold World.cell? at h
  split at h
  · rename_i c ty fz hb
    split at h
    · cases h
    · rename_i hs
      refine ⟨by simpa using hs, c, ty, fz, hb, h⟩
  · cases h

theorem build_list {α : Type} (n : Nat) (Φ : Nat → α → Prop) (h : ∀ i, i < n → ∃ a, Φ i a) : ∃ l : List α, l.length = n ∧ ∀ i a, l[i]? = some a → Φ i a := by
  induction n with
  | zero => exact ⟨[], rfl, fun i a ha => by simp at ha⟩
  | succ n ih =>
    obtain ⟨l, hl, hh⟩ := ih (fun i hi => h i (by omega))
    obtain ⟨a, ha⟩ := h n (by omega)
    refine ⟨l ++ [a], by simp [hl], fun i b hb => ?_⟩
    by_cases hi : i < l.length
    · rw [List.getElem?_append_left hi] at hb; exact hh i b hb
    · rw [List.getElem?_append_right (by omega)] at hb
      have : i = n := by
        rcases Nat.lt_or_ge (i - l.length) 1 with h1 | h1
        · omega
        · rw [List.getElem?_eq_none (by simpa using h1)] at hb; cases hb
      subst this
      simp [hl] at hb
      subst hb; exact ha

theorem Opn.slice {t e : TypeId} (ht : P.underlying t = some (.slice e)) (d : Cd El (El e)) (hd : ∀ x, L.enc e x = d.enc x) (hsz : P.cellsOf e = L.sz e) (hpos : 0 < L.sz e) {ok : El e → Prop} (he : Opn P L e d ok) :
    Opn P L t (Cd.list e) (fun xs => xs.length ≤ 9223372036854775807 ∧ ∀ x ∈ xs, ok x) := by
  intro H enc w fuel cs x h
  rcases DataW.trod_slice ht h with ⟨rfl, _⟩ | ⟨a, len, cap, elems, rest, n, rfl, rfl, _, _, hlc, hcap, hel, hat, _, _⟩
  · exact ⟨[], Reps.cons .listNil Reps.nil, by simp [Value.oneCell'], by simp⟩
  · have hmax : cap ≤ 9223372036854775807 := hcap
    obtain ⟨xs, hxl, hx⟩ := build_list (α := El e × List Value) len (fun i p => w.cells? 0 (a.add (i * P.cellsOf e)) (P.cellsOf e) = some p.2 ∧ Reps L (Old w) w noE (d.enc p.1) p.2 ∧ (∀ v ∈ p.2, v.oneCell' = true) ∧ ok p.1) (fun i hi => by
      have h1 := hat i hi
      rw [List.getElem?_eq_getElem (by omega)] at h1
      obtain ⟨ecs, h2, h3⟩ := Option.bind_eq_some_iff.1 h1
      obtain ⟨b, b1, b2, b3⟩ := he H enc w n ecs _ h3
      exact ⟨(b, ecs), h2, b1, b2, b3⟩)
    refine ⟨xs.map (·.1), Reps.cons ?_ Reps.nil, by simp [Value.oneCell'], by simp only [List.length_map]; omega, fun y hy => ?_⟩
    · by_cases h0 : len = 0
      · subst h0
        obtain rfl : xs = [] := List.length_eq_zero_iff.1 hxl
        exact .listNil
      · -- the first cell tells the block
        have cell : ∀ i, i < len → ∀ j, j < L.sz e → ∃ v, (xs.getD i (L.dflt e, [])).2[j]? = some v ∧ w.cell? (a.add (i * L.sz e + j)) = some v ∧ v.oneCell' = true := by
          intro i hi j hj
          have hi' : i < xs.length := by omega
          have g := hx i xs[i] (List.getElem?_eq_getElem hi')
          obtain ⟨_, g2, g3⟩ := World.cells?_some g.1
          have e1 : xs.getD i (L.dflt e, []) = xs[i] := by rw [List.getD_eq_getElem?_getD, List.getElem?_eq_getElem hi']; rfl
          rw [e1]
          have hj' : j < xs[i].2.length := by rw [g2, hsz]; exact hj
          refine ⟨xs[i].2[j], List.getElem?_eq_getElem hj', ?_, g.2.2.1 _ (List.getElem_mem hj')⟩
          have := g3 j (by rw [hsz]; exact hj)
          rw [List.getElem?_eq_getElem hj', hsz] at this
          rw [← this]
          have ea : a.add (i * L.sz e + j) = (a.add (i * L.sz e)).add j := by
            unfold Addr.add
            by_cases h1 : i * L.sz e = 0
            · simp [h1]
            · by_cases h2 : j = 0
              · simp [h2]
              · rw [if_neg (by omega), if_neg h1, if_neg h2]; simp [Nat.add_assoc]
          rw [ea]
        obtain ⟨v0, _, hc0, _⟩ := cell 0 (by omega) 0 hpos
        obtain ⟨hs0, cells, ty, fz, hb0, _⟩ := cell_heap hc0
        obtain ⟨blk, off, spot⟩ := a
        have hsp : spot = none := by
          cases spot with
          | none => rfl
          | some q => simp [Addr.add] at hs0
        subst hsp
        have hb : w.heap[blk]? = some (.cells cells ty fz) := by simpa [Addr.add] using hb0
        have hlt : blk < w.heap.size := by
          rcases Nat.lt_or_ge blk w.heap.size with h' | h'
          · exact h'
          · rw [Array.getElem?_eq_none h'] at hb; cases hb
        refine .list (vals := fun i j => ((xs.getD i (L.dflt e, [])).2[j]?).getD undef) hlt hb (by simp [hxl]) hlc ?_ ?_
        · intro i j hi hj
          obtain ⟨v, h1, h2, h3⟩ := cell i (by simpa [hxl] using hi) j hj
          rw [h1]
          obtain ⟨_, cells', ty', fz', hb', hc'⟩ := cell_heap h2
          have e2 : (Addr.add ⟨blk, off, none⟩ (i * L.sz e + j)).block = blk := by rw [Go.WideShapes.add_plain]
          have e3 : (Addr.add ⟨blk, off, none⟩ (i * L.sz e + j)).off = off + i * L.sz e + j := by rw [Go.WideShapes.add_plain]; exact (Nat.add_assoc _ _ _).symm
          rw [e2, hb] at hb'
          cases hb'
          rw [e3] at hc'
          exact ⟨hc', h3⟩
        · intro i y hy j c hc
          rw [List.getElem?_map] at hy
          cases hxi : xs[i]? with
          | none => rw [hxi] at hy; cases hy
          | some p =>
            rw [hxi] at hy
            cases hy
            have g := hx i p hxi
            rw [hd] at hc
            have e1 : xs.getD i (L.dflt e, []) = p := by rw [List.getD_eq_getElem?_getD, hxi]; rfl
            rw [e1]
            have hjl : j < p.2.length := by
              rw [← g.2.1.len]
              rcases Nat.lt_or_ge j (d.enc p.1).length with h' | h'
              · exact h'
              · rw [List.getElem?_eq_none h'] at hc; cases hc
            rw [List.getElem?_eq_getElem hjl]
            exact g.2.1.at_ j c _ hc (List.getElem?_eq_getElem hjl)
    · obtain ⟨p, hp, rfl⟩ := List.mem_map.1 hy
      obtain ⟨i, hi, rfl⟩ := List.getElem_of_mem hp
      exact (hx i _ (List.getElem?_eq_getElem hi)).2.2.2

theorem OpnF.mono {fs : List (Nat × TypeId)} {o n : Nat} {α : Type} {d : Cd El α} {ok ok' : α → Prop} (h : OpnF P L fs o n d ok) (hi : ∀ a, ok a → ok' a) : OpnF P L fs o n d ok' := fun H enc w fuel cs hl hf => by
  obtain ⟨a, h1, h2, h3⟩ := h H enc w fuel cs hl hf
  exact ⟨a, h1, h2, hi a h3⟩
theorem Opn.mono {t : TypeId} {α : Type} {d : Cd El α} {ok ok' : α → Prop} (h : Opn P L t d ok) (hi : ∀ a, ok a → ok' a) : Opn P L t d ok' := fun H enc w fuel cs x hx => by
  obtain ⟨a, h1, h2, h3⟩ := h H enc w fuel cs x hx
  exact ⟨a, h1, h2, hi a h3⟩

/-- One argument. -/
def OpnV (P : Program) (L : Lay El) (t : TypeId) {α : Type} (d : Cd El α) (ok : α → Prop) : Prop :=
  ∀ (H : Type) (enc : TypeId × Value → H) (w : World) (base : Nat) (v : Value) (dd : DataW H) (ps : List MemPlace), DataW.Trod enc P w 0 (fun _ => true) true t v dd ps → Value.okWide P w .any base t v →
    ∃ a, Reps L (Old w) w noE (d.enc a) [v] ∧ ok a
theorem OpnV.agg {t : TypeId} {α : Type} {d : Cd El α} {ok : α → Prop} (h : Opn P L t d ok) (ha : isAggT P t = some true) : OpnV P L t d.agg ok := by
  intro H enc w base v dd ps ⟨fuel, hf⟩ hv
  obtain ⟨cs, rfl⟩ : ∃ cs, v = .agg cs := by
    unfold isAggT at ha
    unfold Value.okWide at hv
    split at hv
    · obtain ⟨cs, h1, _⟩ := hv; exact ⟨cs, h1⟩
    · obtain ⟨cs, h1, _⟩ := hv; exact ⟨cs, h1⟩
    · rename_i h1 h2
      split at ha
      · rename_i fs hfs; exact absurd hfs (h1 _)
      · rename_i n e hfs; exact absurd hfs (h2 _ _)
      · cases ha
      · cases ha
  obtain ⟨a, h1, h2, h3⟩ := h H enc w fuel _ _ hf
  refine ⟨a, Reps.cons ?_ Reps.nil, h3⟩
  have := h1.agg h2
  simpa [Value.cells] using this
theorem OpnV.one {t : TypeId} {α : Type} {d : Cd El α} {ok : α → Prop} (h : Opn P L t d ok) (ha : isAggT P t = some false) : OpnV P L t d ok := by
  intro H enc w base v dd ps ⟨fuel, hf⟩ hv
  have hn : ∀ cs, v ≠ .agg cs := by
    rintro cs rfl
    unfold isAggT at ha
    unfold Value.okWide at hv
    split at hv
    · rename_i h1; rw [h1] at ha; cases ha
    · rename_i h1; rw [h1] at ha; cases ha
    · unfold Cell.okWide at hv
      split at hv <;> try cases ‹Value.agg cs = _›
      unfold Cell.ok at hv
      split at hv <;> first | cases ‹Value.agg cs = _› | exact hv.elim
  obtain ⟨a, h1, h2, h3⟩ := h H enc w fuel _ _ hf
  have e : v.cells.toList = [v] := by
    cases v with
    | agg cs => exact absurd rfl (hn cs)
    | _ => rfl
  rw [e] at h1
  exact ⟨a, h1, h3⟩

/-- All arguments. -/
def OpnL (P : Program) (L : Lay El) (ts : List TypeId) {α : Type} (d : Cd El α) (ok : α → Prop) : Prop :=
  ∀ (H : Type) (enc : TypeId × Value → H) (w : World) (base : Nat) (vs : List Value) (ds : List (DataW H)) (ps : List MemPlace), DataW.TrodAll enc P w 0 (fun _ => true) true ts vs ds ps →
    (∀ (j : Nat) t v, ts[j]? = some t → vs[j]? = some v → Value.okWide P w .any base t v) → ∃ a, Reps L (Old w) w noE (d.enc a) vs ∧ ok a
theorem OpnL.last {t : TypeId} {α : Type} {d : Cd El α} {ok : α → Prop} (h : OpnV P L t d ok) : OpnL P L [t] d ok := by
  intro H enc w base vs ds ps ht hv
  obtain ⟨v, vs', d', ds', p, q, rfl, rfl, rfl, h1, h2⟩ := trodAll_cons ht
  obtain ⟨rfl, rfl, rfl⟩ := trodAll_nil h2
  exact h H enc w base v d' p h1 (hv 0 t v rfl rfl)
theorem OpnL.cons {t : TypeId} {ts : List TypeId} {α β : Type} {d : Cd El α} {d' : Cd El β} {ok : α → Prop} {ok' : β → Prop} (h : OpnV P L t d ok) (hs : OpnL P L ts d' ok') : OpnL P L (t :: ts) (d.pair d') (fun a => ok a.1 ∧ ok' a.2) := by
  intro H enc w base vs ds ps ht hv
  obtain ⟨v, vs', dd, ds', p, q, rfl, rfl, rfl, h1, h2⟩ := trodAll_cons ht
  obtain ⟨a, a1, a2⟩ := h H enc w base v dd p h1 (hv 0 t v rfl rfl)
  obtain ⟨b, b1, b2⟩ := hs H enc w base vs' ds' q h2 (fun j t' v' hj hv' => hv (j + 1) t' v' (by simpa using hj) (by simpa using hv'))
  exact ⟨(a, b), a1.append b1, a2, b2⟩
theorem OpnL.iso {ts : List TypeId} {α β : Type} {d : Cd El α} {ok : α → Prop} (h : OpnL P L ts d ok) (f : α → β) (g : β → α) (hg : ∀ x, g (f x) = x) : OpnL P L ts (d.iso f g hg) (fun b => ok (g b)) := by
  intro H enc w base vs ds ps ht hv
  obtain ⟨a, h1, h2⟩ := h H enc w base vs ds ps ht hv
  exact ⟨f a, by simpa only [Cd.iso, hg] using h1, by show ok (g (f a)); rw [hg]; exact h2⟩
end

/-- Arguments read behind the call as they did before it. -/
theorem carry_all {H : Type} {enc : TypeId × Value → H} {P : Program} (hl : laidOutB P = true) {W W' : World} (hb : Below W.heap.size W W') : ∀ {ts : List TypeId} {vs : List Value} {ds : List (DataW H)} {ps : List MemPlace},
    (∀ t ∈ ts, P.readableRec t = true ∧ t < P.types.size) → DataW.TrodAll enc P W 0 (fun _ => true) true ts vs ds ps → DataW.TrodAll enc P W' 0 (fun b => decide (b < W.heap.size)) true ts vs ds ps
  | [], [], [], _, _, h => h
  | t :: ts, v :: vs, d :: ds, ps, hr, h => by
    have hlt := h.lt
    obtain ⟨p, q, h1, h2, rfl⟩ := h
    exact ⟨p, q, Below.trod hl (hr t (by simp)).1 (hr t (by simp)).2 h1 hb (fun x hx => hlt x (by simp [hx])), carry_all hl hb (fun t' ht' => hr t' (by simp [ht'])) h2, rfl⟩

def readable (P : Program) (ts : List TypeId) : Bool := ts.all fun t => P.readableRec t && decide (t < P.types.size)

section
variable {c : Cx El} {Γ : FuncId → Option (GSpec El)}

theorem HR.none {L : Lay El} {w : World} : HR L (Old w) w noE ([] : List (Res El)) where
  res r hr := absurd rfl hr
  apart r r' e e' b hr := absurd rfl hr
  notI b := fun ⟨r, e, hr, _⟩ => absurd rfl hr
  old b hb := hb

/-- A row: the law comes back true, its arguments read as they did. -/
theorem row_ok {C : Checked} {os : Os} {f : FuncId} {fn : Func} {code : Code} {s : ChangeSpec} {conds : List PathCond} {ts : List TypeId} {tb : TypeId} {H : Type} {enc : TypeId × Value → H}
    (own : ownKnob C.prog.godebug = none) (started : os.Started) (noInit : C.prog.inits.idxOf? f = none) (hfn : C.prog.funcs[f]? = some fn) (hb : fn.body = some code)
    (hts : fn.params.toList = ts) (htb : fn.resultTypes.toList = [tb]) (hbool : C.prog.underlying tb = some .bool) (hvars : s.vars = [])
    (hs : ∀ ds : List (DataW H), ds.length = ts.length → s.fn H ds = { results := [.lit (.bool true)], args := ds })
    (witness : ∃ (w : World) (tape : Tape) (i : Input), w.os = os ∧ (w.forCall tape i).Shaped C.prog ∧ i.vars = [] ∧ Input.okWide C.prog (w.forCall tape i) .any w.heap.size f i ∧
      s.pre6 enc C.prog fn conds false (w.forCall tape i).memory i.args ∧ ({} : Assume).holds C.prog (lone (Frame.enter C.prog f i.args .normal) [] (w.forCall tape i)))
    (hlaid : laidOutB C.prog = true) (hread : readable C.prog ts = true) (hc : c.P = C.prog)
    {α : Type} {d : Cd El α} {ok : α → Prop} (hopen : OpnL C.prog c.L ts d ok) {spec : α → Nat → Option (St El → LSpec El)}
    (hΓ : ∀ f g, Γ f = some g → GOk c f g) {n : Nat} (hexec : ∀ a, ok a → aexecF cnd c Γ (spec a) n fn code (d.enc a) [] (fun y _ => y = .bool true)) :
    ReturnsInHanded {} C os f .any (s.pre6 enc C.prog fn conds false) (s.post enc C.prog fn false true false false) := by
  refine returnsInHanded_of_change_sized (C := C) own started noInit hfn witness ?_
  intro W base args ds gs before hval hW hcnd hsz _
  have hW' := hW
  obtain ⟨p, q, hA, hV, rfl, hfz, hnd⟩ := hW
  rw [hvars] at hV
  obtain ⟨rfl, rfl⟩ := trodVars_none hV
  rw [hts] at hA
  obtain ⟨a, h1, h2⟩ := hopen H enc W base args.toList ds p hA (fun j t v hj hv => hval j t v (by rw [← hts] at hj; simpa using hj) (by simpa using hv))
  have hx := aexecF_ok hΓ (by rw [hc]; exact hfn) hb (hexec a h2) h1 HR.none (fun r _ => rfl)
  rw [hc] at hx
  refine (hx.mono fun e W' ⟨v, y, R', I', E', he, hy, hk⟩ => ?_)
  subst he
  subst hy
  have hv := hk.rep
  cases hv
  have bel : Below W.heap.size W W' := ⟨hk.ext.fr.os, hk.ext.fr.tape, hk.ext.fr.output, hk.ext.fr.size, fun b hb => hk.ext.fr.block b hb (fun ⟨r, e, hr, _⟩ => absurd rfl hr)⟩
  have hlen : ds.length = ts.length := by
    clear h1 h2 hval hcnd hsz hW' hx
    have : ∀ {ts : List TypeId} {vs : List Value} {ds : List (DataW H)} {ps : List MemPlace}, DataW.TrodAll enc C.prog W 0 (fun _ => true) true ts vs ds ps → ds.length = ts.length := by
      intro ts
      induction ts with
      | nil => intro vs ds ps h; obtain ⟨rfl, rfl, rfl⟩ := trodAll_nil h; rfl
      | cons t ts ih =>
        intro vs ds ps h
        obtain ⟨v, vs', d', ds', p, q, rfl, rfl, rfl, _, h2⟩ := trodAll_cons h
        simp [ih h2]
    exact this hA
  have hrs : fn.resultTypes.size = 1 := by
    have := congrArg List.length htb
    simpa using this
  have hsf : s.fn H (ds ++ []) = { results := [.lit (.bool true)], args := ds } := by rw [List.append_nil]; exact hs ds hlen
  refine ⟨_, rfl, ds, [], _, [], p, [], hW', ?_, ?_, ?_, bel.frame _, fun h => by cases h⟩
  · rw [hsf, htb, hrs]
    exact trodAll_mk1 (shut_bool hbool _)
  · rw [hsf, hts]
    exact carry_all hlaid bel (fun t ht => by
      have := List.all_eq_true.1 hread t ht
      simp only [Bool.and_eq_true, decide_eq_true_eq] at this
      exact this) hA
  · rw [hsf, hvars]; rfl
end
end Go.Ax
