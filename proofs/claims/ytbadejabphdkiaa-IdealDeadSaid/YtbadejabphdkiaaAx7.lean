/- A verified symbolic executor, part 7: slices that are cut, made, written out, and appended to. Over any program; the facts on its types are given with it. -/
import Derived.Test.YtbadejabphdkiaaAx6
set_option linter.unusedVariables false
set_option linter.unusedSimpArgs false
namespace Go.Ax
variable {El : TypeId → Type}
section proofs
variable {I : Nat → Prop} {E : Env} {R : List (Res El)} {w w' : World} {c : Cx El} {L : Lay El}

/-- A resource under a new name, in a block that is nobody's. -/
theorem HR.add0 (h : HR L I w E R) {base : Nat} (hb : E base = none) (e : REnv) (x : Res El) (hsame : ∀ k, Own E R k ∨ I k → w'.heap[k]? = w.heap[k]?) (hsize : w.heap.size ≤ w'.heap.size)
    (hx : HRes L I w' (E.put base e) e x) (hn : ∀ b, e.blk = some b → ¬ Own E R b ∧ ¬ I b) : HR L I w' (E.put base e) (setR R base x) := by
  have hle := Env.le_put (e := e) hb
  refine ⟨?_, ?_, ?_, fun k hk => Nat.lt_of_lt_of_le (h.old k hk) hsize⟩
  · intro r hr
    rw [getR_setR] at hr ⊢
    by_cases hrb : r = base
    · rw [if_pos hrb]; subst hrb
      exact ⟨e, Env.put_same _ _ _, hx⟩
    · rw [if_neg hrb] at hr ⊢
      obtain ⟨e', h1, h2⟩ := h.res r hr
      exact ⟨e', hle _ _ h1, h2.keep (fun _ h => h) (fun b hb => hsame b (.inr hb)) hle (fun b hb' _ => hsame b (.inl ⟨r, e', hr, h1, hb'⟩))⟩
  · intro r r' e1 e2 b h1 h2 h3 h4 h5 h6
    rw [getR_setR] at h1 h2
    by_cases hr : r = base
    · by_cases hr' : r' = base
      · exact hr.trans hr'.symm
      · rw [if_neg hr'] at h2
        rw [Env.put_ne E e hr'] at h4
        subst hr
        rw [Env.put_same] at h3; cases h3
        exact absurd ⟨r', e2, h2, h4, h6⟩ (hn b h5).1
    · by_cases hr' : r' = base
      · rw [if_neg hr] at h1
        rw [Env.put_ne E e hr] at h3
        subst hr'
        rw [Env.put_same] at h4; cases h4
        exact absurd ⟨r, e1, h1, h3, h5⟩ (hn b h6).1
      · rw [if_neg hr] at h1
        rw [if_neg hr'] at h2
        rw [Env.put_ne E e hr] at h3
        rw [Env.put_ne E e hr'] at h4
        exact h.apart r r' e1 e2 b h1 h2 h3 h4 h5 h6
  · rintro b ⟨r, e', h1, h2, h3⟩ hI
    rw [getR_setR] at h1
    by_cases hr : r = base
    · subst hr
      rw [Env.put_same] at h2; cases h2
      exact (hn b h3).2 hI
    · rw [if_neg hr] at h1
      rw [Env.put_ne E e hr] at h2
      exact h.notI b ⟨r, e', h1, h2, h3⟩ hI

/-- A new slice of the run's own, in a new block. -/
theorem HR.addVec (h : HR c.L I w E R) {base : Nat} (hb : E base = none) (t : TypeId) (xs : List (El t)) (cap : Nat) (cells : Array Value) (hcap : xs.length ≤ cap) (hsz : cells.size = cap * c.L.sz t)
    (vals : Nat → Nat → Value) (hc : ∀ i j, i < xs.length → j < c.L.sz t → cells[i * c.L.sz t + j]? = some (vals i j) ∧ (vals i j).oneCell' = true)
    (hr : ∀ i x, xs[i]? = some x → ∀ j a, (c.L.enc t x)[j]? = some a → Rep c.L (fun _ => False) w noE a (vals i j)) {w1 : World} (hw : Fr (fun _ => False) w w1) :
    Post c.L I E R w base [(base, .vec t xs)] (.vec base) (.slice (some ⟨w1.heap.size, 0, none⟩) xs.length cap) (w1.alloc (.cells cells t)) I (E.put base ⟨some w1.heap.size, .slice (some ⟨w1.heap.size, 0, none⟩) xs.length cap⟩) := by
  have hf : Fr (fun _ => False) w (w1.alloc (.cells cells t)) := hw.trans (Fr.alloc w1 _) (fun _ h => h.elim)
  have hnew := heap_alloc_new w1 (.cells cells t)
  obtain ⟨g1, g2⟩ := h.add hb ⟨some w1.heap.size, .slice (some ⟨w1.heap.size, 0, none⟩) xs.length cap⟩ (.vec t xs) hf
    (.inr ⟨w1.heap.size, cap, cells, vals, rfl, rfl, hcap, hnew, hsz, hc, fun i x hx j a ha => (hr i x hx j a ha).mono (fun _ h => h) (fun _ h => h.elim) (Env.le_refl _)⟩)
    (fun b hb => by cases hb; exact hw.size)
  exact ⟨g2, g1, .vec (Env.put_same _ _ _) rfl, fun r hr => Env.put_ne _ _ (fun e => absurd (hr (.vec t xs) (by rw [e]; simp)) (by omega))⟩

theorem decAll_ok {t : TypeId} {n : Nat} {cs : List (AVal El)} {xs : List (El t)} (h : decAll L t n cs = some xs) :
    xs.length = n ∧ cs.length = n * L.sz t ∧ ∀ i x, xs[i]? = some x → ∀ j, j < L.sz t → (L.enc t x)[j]? = cs[i * L.sz t + j]? := by
  induction n generalizing cs xs with
  | zero =>
    cases cs with
    | nil => simp [decAll] at h; subst h; simp
    | cons a cs => simp [decAll] at h
  | succ n ih =>
    simp only [decAll] at h
    split at h
    · rename_i l hl
      split at h
      · rename_i x xs' hx hxs
        simp only [Option.some.injEq] at h; subst h
        obtain ⟨rfl, hle⟩ := takeF_some hl
        rw [dropF_eq] at hxs
        obtain ⟨h1, h2, h3⟩ := ih hxs
        refine ⟨by simp [h1], ?_, ?_⟩
        · rw [Nat.succ_mul]; simp at h2; omega
        · intro i y hy j hj
          cases i with
          | zero =>
            simp at hy; subst hy
            rw [L.dec_enc _ _ _ hx, List.getElem?_take, if_pos hj]
            simp
          | succ i =>
            simp at hy
            rw [h3 i y hy j hj, List.getElem?_drop, Nat.succ_mul]
            congr 1
            omega
      · cases h
    · cases h

theorem topsF_reps (n : Nat) (vs : List Value) (h : vs.length = n) : Reps L I w E (topsF n : List (AVal El)) vs := by
  induction n generalizing vs with
  | zero =>
    cases vs with
    | nil => exact Reps.nil
    | cons v vs => simp at h
  | succ n ih =>
    cases vs with
    | nil => simp at h
    | cons v vs => exact Reps.cons .top (ih vs (by simpa using h))

theorem zero_of (c : Cx El) {t : TypeId} (hk : c.known t = true) : ∃ i z, c.P.info? t = some i ∧ i.zero = some z ∧ i.size = c.L.sz t ∧ z.cells.size = c.L.sz t ∧ 0 < c.L.sz t ∧
    ∀ k : Nat, k < c.L.sz t → ∃ v, z.cells[k]? = some v ∧ v.oneCell' = true ∧ ∀ (I : Nat → Prop) (w : World) (a : AVal El), (c.L.enc t (c.L.dflt t))[k]? = some a → Rep c.L I w noE a v := by
  obtain ⟨h1, h2⟩ := c.known_ok t hk
  obtain ⟨z, h3, h4, h5⟩ := c.zero_ok t hk
  cases hi : c.P.info? t with
  | none => simp [hi] at h1
  | some i =>
    simp [hi] at h1 h3
    exact ⟨i, z, rfl, h3, h1, h4, h2, h5⟩

theorem aBuildSlice_ok (h : HR c.L I w E R) {base : Nat} (hb : E base = none) {t : TypeId} {len : Nat} {parts : List (Nat × AVal El)} {pv : List (Nat × Value)} {y : Eff El} (hp : PartsRep c.L I w E parts pv)
    (ho : (aBuildSlice c base t len parts).Out y) : ∃ u w' I' E', (Instr.buildSlice t len pv.toArray).run c.P w = .ok u w' ∧ Post c.L I E R w base y.2 y.1 u w' I' E' := by
  unfold aBuildSlice at ho
  split at ho
  · rename_i e hu
    split at ho
    · rename_i hk
      obtain ⟨hk, hfl, hsmall⟩ := hk
      split at ho
      · rename_i cs hfill
        split at ho
        · rename_i xs hdec
          simp only [Tree.Out] at ho; subst ho
          obtain ⟨i, z, hi, hz, his, hzs, hpos, hzc⟩ := zero_of c hk
          have hzero : ∀ k : Nat, z.cells[k % z.cells.size]! ∈ z.cells.toList := by
            intro k
            have : k % z.cells.size < z.cells.size := Nat.mod_lt _ (by rw [hzs]; exact hpos)
            rw [getElem!_pos z.cells _ this]
            simp
          have hzone : ∀ v ∈ z.cells.toList, v.oneCell' = true := by
            intro v hv
            obtain ⟨k, hk'⟩ := List.mem_iff_getElem?.1 hv
            have hlt : k < c.L.sz e := by
              rcases Nat.lt_or_ge k z.cells.toList.length with h' | h'
              · simpa [hzs] using h'
              · rw [List.getElem?_eq_none h'] at hk'; cases hk'
            obtain ⟨v', g1, g2, _⟩ := hzc k hlt
            rw [Array.getElem?_toList, g1] at hk'; cases hk'
            exact g2
          obtain ⟨us, k1, k2, k3⟩ := aFill_ok hp hfill (topsF_reps (L := c.L) (I := I) (w := w) (E := E) (len * c.L.sz e) ((List.range (len * c.L.sz e)).map (fun k => z.cells[k % z.cells.size]!)) (by simp))
            (fun v hv => by
              obtain ⟨k, _, rfl⟩ := List.mem_map.1 hv
              exact hzone _ (hzero k))
          obtain ⟨d1, d2, d3⟩ := decAll_ok hdec
          have hus : us.length = len * c.L.sz e := by rw [← k2.len, d2]
          have hpost := h.addVec (w1 := w) hb e xs len us.toArray (by omega) (by simpa using hus) (fun i j => us.getD (i * c.L.sz e + j) undef)
            (by
              intro i j hi' hj
              have hlt : i * c.L.sz e + j < us.length := by
                rw [hus]
                have : (i + 1) * c.L.sz e ≤ len * c.L.sz e := Nat.mul_le_mul_right _ (by omega)
                rw [Nat.succ_mul] at this; omega
              rw [List.getElem?_toArray, List.getD_eq_getElem?_getD, List.getElem?_eq_getElem hlt]
              exact ⟨rfl, k3 _ (List.getElem_mem hlt)⟩)
            (by
              intro i x hx j a ha
              have hj : j < c.L.sz e := by
                rcases Nat.lt_or_ge j (c.L.enc e x).length with h' | h'
                · rw [c.L.enc_len] at h'; exact h'
                · rw [List.getElem?_eq_none h'] at ha; cases ha
              have hfa := flatL_at (c.flat_ok e hfl x) ha
              rw [d3 i x hx j hj] at ha
              have hrep := k2.getD (i * c.L.sz e + j) undef
              rw [nth_eq, List.getD_eq_getElem?_getD, ha] at hrep
              exact hrep.flat hfa)
            (Fr.refl _ _)
          refine ⟨_, _, _, _, ?_, hpost⟩
          have hfill' : Instr.fill (fun i => some (i * c.L.sz e, c.L.sz e)) ((Array.range (len * c.L.sz e)).map (fun k => z.cells[k % z.cells.size]!)) pv = some us.toArray := by
            rw [← k1]
            congr 1
            apply Array.ext'
            simp
          by_cases h0 : len * c.L.sz e = 0
          · have hfill0 : Instr.fill (fun i => some (i * c.L.sz e, c.L.sz e)) ((Array.range (len * c.L.sz e)).map (fun k => (#[] : Array Value)[k % (#[] : Array Value).size]!)) pv = some us.toArray := by
              rw [← hfill', h0, Array.range_zero']; simp
            have h24 : ¬ (16777216 < len * c.L.sz e) := by omega
            simp only [Instr.buildSlice, run_underlying hu, sizeOf, typeInfo, hi, his, Sem.run_bind, Sem.run_pure, run_program, Result.andThen_ok, Sem.run_ite, d1]
            rw [if_neg (by simpa using h24), if_pos h0]
            simp only [Sem.run_pure, Result.andThen_ok, hfill0]
            simp [newRow]
          · have h24 : ¬ (16777216 < len * c.L.sz e) := by omega
            simp only [Instr.buildSlice, run_underlying hu, sizeOf, typeInfo, zeroValue, hi, hz, his, Sem.run_bind, Sem.run_pure, run_program, Result.andThen_ok, Sem.run_ite, d1]
            rw [if_neg (by simpa using h24), if_neg h0]
            simp only [Sem.run_pure, Result.andThen_ok, hfill']
            simp [newRow]
        · exact ho.elim
      · exact ho.elim
    · exact ho.elim
  · exact ho.elim

theorem aMake_ok (h : HR c.L I w E R) {base : Nat} (hb : E base = none) {t : TypeId} {l k : AVal El} {vl vk : Value} {y : Eff El} (hl : Rep c.L I w E l vl) (hk : Rep c.L I w E k vk)
    (ho : (aMake c base t l k).Out y) : ∃ u w' I' E', (Instr.makeSlice t vl vk).run c.P w = .ok u w' ∧ Post c.L I E R w base y.2 y.1 u w' I' E' := by
  unfold aMake at ho
  split at ho
  · rename_i k1 n k2 m e hu
    split at ho
    · rename_i i hi
      split at ho
      · rename_i hkn
        obtain ⟨hkn, hfl⟩ := hkn
        simp only [Tree.Out] at ho
        obtain ⟨⟨h0, rfl, hby, hmax⟩, rfl⟩ := ho
        cases hl; cases hk
        obtain ⟨i', z, hi', hz, his, hzs, hpos, hzc⟩ := zero_of c hkn
        rw [hi] at hi'; cases hi'
        have hrun := run_make (P := c.P) w t e i z hu hi hz k1 k2 n n h0 (Int.le_refl _) (by omega) (by omega)
        have hcell : ∀ q j : Nat, q < n.toNat → j < c.L.sz e → (madeCells z.cells (n.toNat * i.size))[q * c.L.sz e + j]? = some (z.cells[j]?.getD undef) := by
          intro q j hq hj
          have hlt : q * c.L.sz e + j < n.toNat * c.L.sz e := by
            have : (q + 1) * c.L.sz e ≤ n.toNat * c.L.sz e := Nat.mul_le_mul_right _ (by omega)
            rw [Nat.succ_mul] at this; omega
          have hmod : (q * c.L.sz e + j) % z.cells.size = j := by rw [hzs, Nat.mul_comm, Nat.mul_add_mod, Nat.mod_eq_of_lt hj]
          have hjz : j < z.cells.size := by omega
          unfold madeCells
          rw [his, Array.getElem?_map, Array.getElem?_range, if_pos hlt]
          simp only [Option.map_some, hmod]
          rw [getElem!_pos z.cells j hjz, Array.getElem?_eq_getElem hjz]
          rfl
        have hpost := h.addVec (w1 := w) hb e (List.replicate n.toNat (c.L.dflt e)) n.toNat (madeCells z.cells (n.toNat * i.size)) (by simp) (by rw [size_madeCells, his]) (fun q j => z.cells[j]?.getD undef)
          (by
            intro q j hq hj
            rw [List.length_replicate] at hq
            refine ⟨hcell q j hq hj, ?_⟩
            obtain ⟨v, g1, g2, _⟩ := hzc j hj
            rw [g1]; exact g2)
          (by
            intro q x hx j a ha
            have hq : q < n.toNat := by
              rcases Nat.lt_or_ge q (List.replicate n.toNat (c.L.dflt e)).length with h' | h'
              · simpa using h'
              · rw [List.getElem?_eq_none h'] at hx; cases hx
            rw [List.getElem?_replicate, if_pos hq] at hx
            cases hx
            have hj : j < c.L.sz e := by
              rcases Nat.lt_or_ge j (c.L.enc e (c.L.dflt e)).length with h' | h'
              · rw [c.L.enc_len] at h'; exact h'
              · rw [List.getElem?_eq_none h'] at ha; cases ha
            obtain ⟨v, g1, g2, g3⟩ := hzc j hj
            rw [g1]
            exact g3 _ _ a ha)
          (Fr.refl _ _)
        refine ⟨_, _, _, _, ?_, hpost⟩
        rw [hrun, List.length_replicate]
      · exact ho.elim
    · exact ho.elim
  · exact ho.elim

theorem asList_ok (h : HR c.L I w E R) {x : AVal El} {v : Value} {t : TypeId} {xs : List (El t)} {upd : List (Nat × Res El)} (hx : Rep c.L I w E x v) (ho : asList R x = some ⟨t, xs, upd⟩) :
    ∃ I', Ext I E R w I' E (updR R upd) w ∧ HR c.L I' w E (updR R upd) ∧ Rep c.L I' w E (.list t xs) v := by
  unfold asList at ho
  split at ho
  · simp only [Option.some.injEq, Sigma.mk.injEq] at ho
    obtain ⟨rfl, ho⟩ := ho
    simp only [heq_eq_eq, Prod.mk.injEq] at ho
    obtain ⟨rfl, rfl⟩ := ho
    exact ⟨I, Ext.refl, h, hx⟩
  · rename_i r
    split at ho
    · rename_i t' xs' hg
      simp only [Option.some.injEq, Sigma.mk.injEq] at ho
      obtain ⟨rfl, ho⟩ := ho
      simp only [heq_eq_eq, Prod.mk.injEq] at ho
      obtain ⟨rfl, rfl⟩ := ho
      obtain ⟨e, h1, h2⟩ := h.res r (by rw [hg]; simp)
      rw [hg] at h2
      cases hx with
      | vec he hone =>
        rw [h1] at he; cases he
        rcases h2 with ⟨k0, rfl, a, k⟩ | ⟨b, cap, cells, vals, k1, k2, k3, k4, k5, k6, k7⟩
        · obtain ⟨g1, g2⟩ := h.kill (r := r) (by rw [hg]; simp) h1 I (fun _ h => h) (fun _ h => .inl h)
          rw [k]
          exact ⟨I, g2, g1, .listNil⟩
        · obtain ⟨g1, g2⟩ := h.kill (r := r) (by rw [hg]; simp) h1 (fun k => I k ∨ k = b) (fun _ h => .inl h) (fun k hk => hk.imp id (fun (hkb : k = b) => by rw [hkb]; exact k1))
          refine ⟨fun k => I k ∨ k = b, g2, g1, ?_⟩
          rw [k2]
          exact .list (.inr rfl) k4 rfl k3 vals (by simpa using k6) (fun i x hx j a ha => (k7 i x hx j a ha).mono (fun _ h => h.elim) (fun _ h => h.elim) (Env.le_refl _))
    · cases ho
  · cases ho

/-- A cut of a list. -/
theorem Rep.cut {t : TypeId} {xs : List (El t)} {a : Option Addr} {len cap : Nat} (hx : Rep L I w E (.list t xs) (.slice a len cap)) {l h m : Nat} (hlh : l ≤ h) (hhl : h ≤ xs.length) (hhm : h ≤ m) (s : Nat) (hs : s = L.sz t) :
    Rep L I w E (.list t ((xs.take h).drop l)) (.slice (if m = l then a else a.map (·.add (l * s))) (h - l) (m - l)) := by
  subst hs
  by_cases hd : h - l = 0
  · have : (xs.take h).drop l = [] := by
      apply List.drop_eq_nil_of_le
      simp; omega
    rw [this, hd]
    exact .listNil
  · have hml : ¬ m = l := by omega
    rw [if_neg hml]
    cases hx with
    | listNil => simp at hhl; omega
    | list hI hb hlen hcap vals hc hrep =>
      rename_i b o cells ty fz
      simp only [Option.map_some, Addr.add_lit]
      refine .list hI hb (by simp; omega) (by omega) (fun i j => vals (l + i) j) ?_ ?_
      · intro i j hi hj
        simp at hi
        have := hc (l + i) j (by omega) hj
        rw [Nat.add_mul] at this
        rw [show o + l * L.sz t + i * L.sz t + j = o + (l * L.sz t + i * L.sz t) + j from by omega]
        exact this
      · intro i x hx j a ha
        rw [List.getElem?_drop, List.getElem?_take] at hx
        split at hx
        · exact hrep (l + i) x hx j a ha
        · cases hx

theorem bndO_ok {o : Option (AVal El)} {vo : Option Value} {r : Option Int} (h : bndO o = some r) (hr : ∀ a, o = some a → ∃ v, vo = some v ∧ Rep L I w E a v) (hn : o = none → vo = none) :
    (r = none ∧ vo = none) ∨ ∃ k n, r = some n ∧ vo = some (.int k n) := by
  cases o with
  | none => simp [bndO] at h; subst h; exact .inl ⟨rfl, hn rfl⟩
  | some a =>
    obtain ⟨v, h1, h2⟩ := hr a rfl
    cases a <;> simp [bndO] at h
    subst h
    cases h2
    exact .inr ⟨_, _, rfl, h1⟩
end proofs
end Go.Ax
