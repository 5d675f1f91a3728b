/- A verified symbolic executor, part 8: cutting a slice, appending to one. Over any program; the facts on its types are given with it. -/
import Derived.Test.YtbadejabphdkiaaAx7
set_option linter.unusedVariables false
set_option linter.unusedSimpArgs false
namespace Go.Ax
variable {El : TypeId → Type}
section proofs
variable {I : Nat → Prop} {E : Env} {R : List (Res El)} {w w' : World} {c : Cx El} {L : Lay El}

theorem run_sliceBound {P : Program} {k : IntKind} {n y : Nat} (h : n ≤ y) (code : BoundsCode) (w : World) : (Instr.sliceBound (.int k n) y code).run P w = .ok n w := by
  have : (0 : Int) ≤ n ∧ (n : Int) ≤ y := ⟨by omega, by omega⟩
  simp [Instr.sliceBound, asIntOf, this]

theorem run_sliceBounds {P : Program} {len cap l h m : Nat} {vlo vhi vmx : Option Value} (hm : (vmx = none ∧ m = cap) ∨ (∃ k, vmx = some (.int k m) ∧ m ≤ cap))
    (hh : (vhi = none ∧ vmx = none ∧ h = len) ∨ (∃ k, vhi = some (.int k h) ∧ h ≤ m)) (hl : (vlo = none ∧ l = 0) ∨ (∃ k, vlo = some (.int k l) ∧ l ≤ h)) (w : World) :
    (Instr.sliceBounds true len cap vlo vhi vmx).run P w = .ok (l, h, m) w := by
  rcases hm with ⟨rfl, rfl⟩ | ⟨k, rfl, hm⟩
  · rcases hh with ⟨rfl, _, rfl⟩ | ⟨k1, rfl, hh⟩
    · rcases hl with ⟨rfl, rfl⟩ | ⟨k2, rfl, hl⟩
      · simp [Instr.sliceBounds]
      · simp [Instr.sliceBounds, run_sliceBound hl]
    · rcases hl with ⟨rfl, rfl⟩ | ⟨k2, rfl, hl⟩
      · simp [Instr.sliceBounds, run_sliceBound hh]
      · simp [Instr.sliceBounds, run_sliceBound hh, run_sliceBound hl]
  · rcases hh with ⟨_, h, _⟩ | ⟨k1, rfl, hh⟩
    · cases h
    · rcases hl with ⟨rfl, rfl⟩ | ⟨k2, rfl, hl⟩
      · simp [Instr.sliceBounds, run_sliceBound hm, run_sliceBound hh]
      · simp [Instr.sliceBounds, run_sliceBound hm, run_sliceBound hh, run_sliceBound hl]

/-- An optional operand and its value. -/
def OptRep (L : Lay El) (I : Nat → Prop) (w : World) (E : Env) : Option (AVal El) → Option Value → Prop
  | none, none => True
  | some a, some v => Rep L I w E a v
  | _, _ => False

theorem bnd_none {o : Option (AVal El)} {v : Option Value} (h : bndO o = some none) (hr : OptRep L I w E o v) : v = none := by
  cases o with
  | none => cases v with
    | none => rfl
    | some v => exact hr.elim
  | some a => cases a <;> simp [bndO] at h
theorem bnd_some {o : Option (AVal El)} {v : Option Value} {n : Int} (h : bndO o = some (some n)) (hr : OptRep L I w E o v) : ∃ k, v = some (.int k n) := by
  cases o with
  | none => simp [bndO] at h
  | some a =>
    cases a <;> simp [bndO] at h
    subst h
    cases v with
    | none => exact hr.elim
    | some v => cases hr; exact ⟨_, rfl⟩

theorem aSlice_ok (h : HR c.L I w E R) {base : Nat} {t : TypeId} {x : AVal El} {v : Value} {lo hi mx : Option (AVal El)} {vlo vhi vmx : Option Value} {y : Eff El} (hx : Rep c.L I w E x v)
    (hlo : OptRep c.L I w E lo vlo) (hhi : OptRep c.L I w E hi vhi) (hmx : OptRep c.L I w E mx vmx) (ho : (aSlice c R t x lo hi mx).Out y) :
    ∃ u w' I' E', (Instr.sliceAt t v vlo vhi vmx).run c.P w = .ok u w' ∧ Post c.L I E R w base y.2 y.1 u w' I' E' := by
  unfold aSlice at ho
  split at ho
  · rename_i e hu
    split at ho
    · rename_i t' xs upd hlist
      split at ho
      · rename_i hk
        obtain ⟨rfl, hk⟩ := hk
        obtain ⟨I', g1, g2, g3⟩ := asList_ok h hx hlist
        have hsz := (c.known_ok _ hk).1
        obtain ⟨a, len, cap, rfl, hle, hlen⟩ : ∃ a len cap, v = .slice a len cap ∧ len ≤ cap ∧ len = xs.length := by
          cases g3 with
          | listNil => exact ⟨_, _, _, rfl, Nat.zero_le _, rfl⟩
          | list _ _ h3 h4 => exact ⟨_, _, _, rfl, h4, h3⟩
        have key : ∀ (l h m : Nat), (Instr.sliceBounds true len cap vlo vhi vmx).run c.P w = .ok (l, h, m) w → l ≤ h → h ≤ xs.length → h ≤ m → ∀ zs, zs = (xs.take h).drop l →
            ∃ u w' I' E', (Instr.sliceAt t (.slice a len cap) vlo vhi vmx).run c.P w = .ok u w' ∧ Post c.L I E R w base upd (.list t' zs) u w' I' E' := by
          rintro l h m hb h1 h2 h3 zs rfl
          refine ⟨_, w, I', E, ?_, ⟨g1, g2, g3.cut h1 h2 h3 _ rfl, fun _ _ => rfl⟩⟩
          simp [Instr.sliceAt, run_underlying hu, Instr.slice, hb, info_size hsz]
        have nat : ∀ n : Int, 0 ≤ n → ∃ k : Nat, n = k ∧ n.toNat = k := fun n hn => ⟨n.toNat, by omega, rfl⟩
        split at ho
        · rename_i b1 b2 b3
          simp only [Tree.Out] at ho; subst ho
          have e1 := bnd_none b1 hlo
          have e2 := bnd_none b2 hhi
          have e3 := bnd_none b3 hmx
          exact key 0 len cap (run_sliceBounds (.inl ⟨e3, rfl⟩) (.inl ⟨e2, e3, rfl⟩) (.inl ⟨e1, rfl⟩) w) (by omega) (by omega) (by omega) _ (by simp [hlen])
        · rename_i l b1 b2 b3
          simp only [Tree.Out] at ho
          obtain ⟨⟨p1, p2⟩, ho⟩ := ho; subst ho
          obtain ⟨k1, e1⟩ := bnd_some b1 hlo
          have e2 := bnd_none b2 hhi
          have e3 := bnd_none b3 hmx
          obtain ⟨l', rfl, q⟩ := nat l p1
          exact key l' len cap (run_sliceBounds (.inl ⟨e3, rfl⟩) (.inl ⟨e2, e3, rfl⟩) (.inr ⟨k1, e1, by omega⟩) w) (by omega) (by omega) (by omega) _ (by simp [hlen])
        · rename_i h' b1 b2 b3
          simp only [Tree.Out] at ho
          obtain ⟨⟨p1, p2⟩, ho⟩ := ho; subst ho
          have e1 := bnd_none b1 hlo
          obtain ⟨k2, e2⟩ := bnd_some b2 hhi
          have e3 := bnd_none b3 hmx
          obtain ⟨h'', rfl, q⟩ := nat h' p1
          exact key 0 h'' cap (run_sliceBounds (.inl ⟨e3, rfl⟩) (.inr ⟨k2, e2, by omega⟩) (.inl ⟨e1, rfl⟩) w) (by omega) (by omega) (by omega) _ (by simp)
        · rename_i l h' b1 b2 b3
          simp only [Tree.Out] at ho
          obtain ⟨⟨p1, p2, p3⟩, ho⟩ := ho; subst ho
          obtain ⟨k1, e1⟩ := bnd_some b1 hlo
          obtain ⟨k2, e2⟩ := bnd_some b2 hhi
          have e3 := bnd_none b3 hmx
          obtain ⟨l', rfl, q⟩ := nat l p1
          obtain ⟨h'', rfl, q'⟩ := nat h' (by omega)
          exact key l' h'' cap (run_sliceBounds (.inl ⟨e3, rfl⟩) (.inr ⟨k2, e2, by omega⟩) (.inr ⟨k1, e1, by omega⟩) w) (by omega) (by omega) (by omega) _ (by simp)
        · rename_i h' m b1 b2 b3
          simp only [Tree.Out] at ho
          obtain ⟨⟨p1, p2, p3⟩, ho⟩ := ho; subst ho
          have e1 := bnd_none b1 hlo
          obtain ⟨k2, e2⟩ := bnd_some b2 hhi
          obtain ⟨k3, e3⟩ := bnd_some b3 hmx
          obtain ⟨h'', rfl, q'⟩ := nat h' p1
          obtain ⟨m', rfl, q''⟩ := nat m (by omega)
          exact key 0 h'' m' (run_sliceBounds (.inr ⟨k3, e3, by omega⟩) (.inr ⟨k2, e2, by omega⟩) (.inl ⟨e1, rfl⟩) w) (by omega) (by omega) (by omega) _ (by simp)
        · rename_i l h' m b1 b2 b3
          simp only [Tree.Out] at ho
          obtain ⟨⟨p1, p2, p3, p4⟩, ho⟩ := ho; subst ho
          obtain ⟨k1, e1⟩ := bnd_some b1 hlo
          obtain ⟨k2, e2⟩ := bnd_some b2 hhi
          obtain ⟨k3, e3⟩ := bnd_some b3 hmx
          obtain ⟨l', rfl, q⟩ := nat l p1
          obtain ⟨h'', rfl, q'⟩ := nat h' (by omega)
          obtain ⟨m', rfl, q''⟩ := nat m (by omega)
          exact key l' h'' m' (run_sliceBounds (.inr ⟨k3, e3, by omega⟩) (.inr ⟨k2, e2, by omega⟩) (.inr ⟨k1, e1, by omega⟩) w) (by omega) (by omega) (by omega) _ (by simp)
        · exact ho.elim
      · exact ho.elim
    · exact ho.elim
  · rename_i n e hu
    split at ho
    · rename_i r off
      split at ho
      · rename_i hsome
        simp only [Tree.Out] at ho; subst ho
        cases vlo with
        | some _ => exact hlo.elim
        | none =>
          cases vhi with
          | some _ => exact hhi.elim
          | none =>
            cases vmx with
            | some _ => exact hmx.elim
            | none =>
              cases hx with
              | ptr he =>
                rename_i b raw
                refine ⟨.slice (some ⟨b, off, none⟩) n n, w, I, E, ?_, h.still (.cs he)⟩
                cases hi' : c.P.info? e with
                | none => simp [hi'] at hsome
                | some i =>
                  by_cases hn : n = 0
                  · subst hn
                    simp [Instr.sliceAt, run_underlying hu, Instr.sureAddr, Instr.sliceBounds, sizeOf, typeInfo, hi']
                  · simp [Instr.sliceAt, run_underlying hu, Instr.sureAddr, Instr.sliceBounds, sizeOf, typeInfo, hi', hn, Addr.add_lit]
      · exact ho.elim
    · exact ho.elim
  · exact ho.elim

/-- What an append reads. -/
structure Src (L : Lay El) (w : World) (t : TypeId) (ys : List (El t)) (v : Value) (news : List Value) : Prop where
  val : ∃ xa xc, v = .slice xa ys.length xc ∧ (0 < ys.length → ∃ ad, xa = some ad ∧ ∀ j u, news[j]? = some u → w.cell? (ad.add j) = some u)
  len : news.length = ys.length * L.sz t
  one : ∀ u ∈ news, u.oneCell' = true
  rep : ∀ i y, ys[i]? = some y → ∀ j a, (L.enc t y)[j]? = some a → flatA a = true → Rep L (fun _ => False) w noE a (news.getD (i * L.sz t + j) undef)

theorem Src.of_row {t : TypeId} {ys : List (El t)} {b o : Nat} {xc : Nat} {cells : Array Value} {ty : TypeId} {fz : Nat × Nat} {I' : Nat → Prop} (hb : w.heap[b]? = some (.cells cells ty fz)) (vals : Nat → Nat → Value)
    (hcells : ∀ (i j : Nat), i < ys.length → j < L.sz t → cells[o + i * L.sz t + j]? = some (vals i j) ∧ (vals i j).oneCell' = true)
    (hrep : ∀ (i : Nat) (x : El t), ys[i]? = some x → ∀ (j : Nat) (c : AVal El), (L.enc t x)[j]? = some c → Rep L I' w noE c (vals i j)) (hpos : 0 < L.sz t) :
    ∃ news, Src L w t ys (.slice (some ⟨b, o, none⟩) ys.length xc) news := by
  obtain ⟨news, hl, hv⟩ := list_of_fun (fun k => vals (k / L.sz t) (k % L.sz t)) (ys.length * L.sz t)
  have hdiv : ∀ k, k < ys.length * L.sz t → k / L.sz t < ys.length ∧ k % L.sz t < L.sz t := fun k hk => ⟨Nat.div_lt_of_lt_mul (by rwa [Nat.mul_comm]), Nat.mod_lt _ hpos⟩
  have hlt : ∀ j u, news[j]? = some u → j < ys.length * L.sz t := fun j u hu => by
    rcases Nat.lt_or_ge j news.length with h | h
    · omega
    · rw [List.getElem?_eq_none h] at hu; cases hu
  refine ⟨news, ⟨_, _, rfl, fun _ => ⟨_, rfl, fun j u hu => ?_⟩⟩, hl, fun u hu => ?_, fun i y hy j a ha hfl => ?_⟩
  · have hj := hlt j u hu
    rw [hv j hj] at hu; cases hu
    obtain ⟨d1, d2⟩ := hdiv j hj
    rw [Addr.add_lit, cell_of hb]
    have := (hcells _ _ d1 d2).1
    rw [← this]
    congr 1
    have := Nat.div_add_mod j (L.sz t)
    rw [Nat.mul_comm] at this
    omega
  · obtain ⟨j, hj⟩ := List.mem_iff_getElem?.1 hu
    have hj' := hlt j u hj
    rw [hv j hj'] at hj; cases hj
    obtain ⟨d1, d2⟩ := hdiv j hj'
    exact (hcells _ _ d1 d2).2
  · have hi : i < ys.length := by
      rcases Nat.lt_or_ge i ys.length with h' | h'
      · exact h'
      · rw [List.getElem?_eq_none h'] at hy; cases hy
    have hj : j < L.sz t := by
      rcases Nat.lt_or_ge j (L.enc t y).length with h' | h'
      · rw [L.enc_len] at h'; exact h'
      · rw [List.getElem?_eq_none h'] at ha; cases ha
    have hk : i * L.sz t + j < ys.length * L.sz t := by
      have : (i + 1) * L.sz t ≤ ys.length * L.sz t := Nat.mul_le_mul_right _ (by omega)
      rw [Nat.succ_mul] at this; omega
    have h1 : (i * L.sz t + j) / L.sz t = i := by rw [Nat.mul_comm, Nat.mul_add_div hpos, Nat.div_eq_of_lt hj, Nat.add_zero]
    have h2 : (i * L.sz t + j) % L.sz t = j := by rw [Nat.mul_comm, Nat.mul_add_mod, Nat.mod_eq_of_lt hj]
    rw [List.getD_eq_getElem?_getD, hv _ hk]
    simp only [h1, h2, Option.getD_some]
    exact (hrep i y hy j a ha).flat hfl

theorem srcOf_ok (h : HR L I w E R) {x : AVal El} {v : Value} {t : TypeId} {ys : List (El t)} (hx : Rep L I w E x v) (ho : srcOf R x = some ⟨t, ys⟩) (hpos : 0 < L.sz t) : ∃ news, Src L w t ys v news := by
  have nil : ∀ a cap, ys = [] → v = .slice a 0 cap → ∃ news, Src L w t ys v news := by
    rintro a cap rfl rfl
    exact ⟨[], ⟨_, _, rfl, fun h => by simp at h⟩, by simp, by simp, fun i y hy => by simp at hy⟩
  unfold srcOf at ho
  split at ho
  · simp only [Option.some.injEq, Sigma.mk.injEq] at ho
    obtain ⟨rfl, ho⟩ := ho
    simp only [heq_eq_eq] at ho; subst ho
    cases hx with
    | listNil => exact nil _ _ rfl rfl
    | list hI hb hlen hcap vals hc hrep => subst hlen; exact Src.of_row hb vals hc hrep hpos
  · rename_i r
    split at ho
    · rename_i t' xs hg
      simp only [Option.some.injEq, Sigma.mk.injEq] at ho
      obtain ⟨rfl, ho⟩ := ho
      simp only [heq_eq_eq] at ho; subst ho
      obtain ⟨e, h1, h2⟩ := h.res r (by rw [hg]; simp)
      rw [hg] at h2
      cases hx with
      | vec he hone =>
        rw [h1] at he; cases he
        rcases h2 with ⟨_, k0, a, k⟩ | ⟨b, cap, cells, vals, k1, k2, k3, k4, k5, k6, k7⟩
        · exact nil _ _ k0 k
        · rw [k2]
          exact Src.of_row (o := 0) k4 vals (by simpa using k6) k7 hpos
    · cases ho
  · cases ho

theorem Src.first {t : TypeId} {ys : List (El t)} {v : Value} {news : List Value} (h : Src L w t ys v news) (P : Program) {w1 : World} (hw : ∀ a, w1.cell? a = w.cell? a) :
    (Builtin.firstCells (L.sz t) ys.length v).run P w1 = .ok news.toArray w1 := by
  obtain ⟨xa, xc, rfl, h2⟩ := h.val
  cases xa with
  | none =>
    have h0 : ¬ 0 < ys.length := fun hp => by obtain ⟨ad, h3, _⟩ := h2 hp; cases h3
    have h1 := h.len
    have : ys.length = 0 := by omega
    rw [this, Nat.zero_mul] at h1
    rw [List.eq_nil_of_length_eq_zero h1]
    exact run_firstCells_none w1 _ _ _ _
  | some ad =>
    refine run_firstCells_some w1 _ _ _ _ _ news h.len (fun j u hu => ?_)
    rw [hw]
    have hp : 0 < ys.length := by
      have := h.len
      have hj : j < news.length := by
        rcases Nat.lt_or_ge j news.length with h' | h'
        · exact h'
        · rw [List.getElem?_eq_none h'] at hu; cases hu
      rcases Nat.eq_zero_or_pos ys.length with h' | h'
      · rw [h', Nat.zero_mul] at this; omega
      · exact h'
    obtain ⟨ad', h3, h4⟩ := h2 hp
    cases h3
    exact h4 j u hu
end proofs
end Go.Ax
