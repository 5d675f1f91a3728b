/- A verified symbolic executor, part 9: appending to a slice of the run's own. Over any program; the facts on its types are given with it. -/
import Derived.Test.YtaikpkhclnkkaaaAx8
set_option linter.unusedVariables false
set_option linter.unusedSimpArgs false
namespace Go.Ax
variable {El : TypeId → Type}
section proofs
variable {I : Nat → Prop} {E : Env} {R : List (Res El)} {w w' : World} {c : Cx El} {L : Lay El}

theorem run_append_in {P : Program} {sT xT ty e e2 : TypeId} {i : TypeInfo} (hs : P.underlying sT = some (.slice e)) (hx : P.underlying xT = some (.slice e2)) (hi : P.info? e = some i)
    {base : Option Addr} {sLen sCap n xc : Nat} {xa : Option Addr} {news : List Value} (hn : sLen + n ≤ sCap) (hf : (Builtin.firstCells i.size n (.slice xa n xc)).run P w = .ok news.toArray w)
    {w1 : World} (hst : ∀ a, base = some a → (storeCells (a.add (sLen * i.size)) news).run P w = .ok () w1) (hno : base = none → w1 = w) :
    (Builtin.append_ #[sT, xT] ty #[.slice base sLen sCap, .slice xa n xc]).run P w = .ok (.slice base (sLen + n) sCap) w1 := by
  cases base with
  | none =>
    rw [hno rfl]
    simp [Builtin.append_, run_underlying hs, run_underlying hx, sizeOf, typeInfo, hi, Builtin.lenOf, hn, hf]
  | some a =>
    have := hst a rfl
    simp [Builtin.append_, run_underlying hs, run_underlying hx, sizeOf, typeInfo, hi, Builtin.lenOf, hn, hf, this]

theorem run_append_out {P : Program} {sT xT ty e e2 : TypeId} {i : TypeInfo} {z : Value} (hs : P.underlying sT = some (.slice e)) (hx : P.underlying xT = some (.slice e2)) (hi : P.info? e = some i) (hz : i.zero = some z)
    {base : Option Addr} {sLen sCap n xc : Nat} {xa : Option Addr} {olds news : List Value} (hn : sCap < sLen + n) (hfo : (Builtin.firstCells i.size sLen (.slice base sLen sCap)).run P w.drew = .ok olds.toArray w.drew)
    (hf : (Builtin.firstCells i.size n (.slice xa n xc)).run P w.drew = .ok news.toArray w.drew) (h63 : ((sLen + n : Nat) : Int) ≤ 9223372036854775807) (hfit : Builtin.nextslicecap (sLen + n) sCap * i.bytes ≤ 281474976710656) :
    (Builtin.append_ #[sT, xT] ty #[.slice base sLen sCap, .slice xa n xc]).run P w =
      .ok (.slice (some ⟨w.heap.size, 0, none⟩) (sLen + n) (grownCap w (sLen + n) sCap e)) (w.drew.alloc (.cells ((olds ++ news).toArray ++ Builtin.zeroCells z.cells (grownCap w (sLen + n) sCap e - (sLen + n))) e)) := by
  have hn' : ¬ (sLen + n ≤ sCap) := by omega
  have h63' : ¬ (9223372036854775807 < ((sLen : Int) + (n : Int))) := by omega
  have h48' : ¬ (281474976710656 < Builtin.nextslicecap (sLen + n) sCap * i.bytes) := by omega
  simp [Builtin.append_, run_underlying hs, run_underlying hx, sizeOf, typeInfo, zeroValue, hi, hz, Builtin.lenOf, hn', h63', h48', Question.forced, hf, hfo, newRow, grownCap]
  congr 2
  apply Array.ext'
  simp [List.append_assoc]

theorem cell?_drew' (w : World) (a : Addr) : w.drew.cell? a = w.cell? a := rfl

theorem aAppend_ok (h : HR c.L I w E R) {base : Nat} (hb : E base = none) {sT xT ty : TypeId} {s x : AVal El} {vs vx : Value} {y : Eff El} (hs : Rep c.L I w E s vs) (hx : Rep c.L I w E x vx)
    (ho : (aAppend c R base sT xT s x).Out y) : ∃ u w' I' E', (Builtin.append_ #[sT, xT] ty #[vs, vx]).run c.P w = .ok u w' ∧ Post c.L I E R w base y.2 y.1 u w' I' E' := by
  unfold aAppend at ho
  split at ho
  · rename_i r e e2 hus hux
    split at ho
    · rename_i t xs i hg hi
      split at ho
      · rename_i hk
        obtain ⟨rfl, hk, hfl⟩ := hk
        split at ho
        · rename_i t' ys hsrc
          split at ho
          · rename_i htt
            subst htt
            simp only [Tree.Out] at ho
            obtain ⟨⟨hby, hmax⟩, rfl⟩ := ho
            obtain ⟨i', z, hi', hz, his, hzs, hpos, hzc⟩ := zero_of c hk
            rw [hi] at hi'; cases hi'
            obtain ⟨news, src⟩ := srcOf_ok h hx hsrc hpos
            have hf := fun {w1 : World} (hw : ∀ a, w1.cell? a = w.cell? a) => src.first c.P hw
            obtain ⟨xa, xc, rfl, hsrc2⟩ := src.val
            obtain ⟨er, h1, h2⟩ := h.res r (by rw [hg]; simp)
            have hrd : getR R r ≠ .dead := by rw [hg]; simp
            have hrb : r ≠ base := fun e => by rw [e] at h1; rw [hb] at h1; cases h1
            rw [hg] at h2
            obtain ⟨kk, kx⟩ := h.kill hrd h1 I (fun _ h => h) (fun _ h => .inl h)
            have killOwn : ∀ k, Own E (setR R r .dead) k → Own E R k ∧ er.blk ≠ some k := by
              rintro k ⟨r', e', g1, g2, g3⟩
              rw [getR_setR] at g1
              by_cases hrr : r' = r
              · rw [if_pos hrr] at g1; exact absurd rfl g1
              · rw [if_neg hrr] at g1
                exact ⟨⟨r', e', g1, g2, g3⟩, fun hk => hrr (h.apart r' r e' er k g1 hrd g2 h1 g3 hk)⟩
            have names : ∀ (E' : Env) (e' : REnv), E' = E.put base e' → ∀ r', (∀ x, (r', x) ∈ [(r, Res.dead), (base, Res.vec t' (xs ++ ys))] → r' < base) → E' r' = E r' := by
              rintro E' e' rfl r' hr'
              exact Env.put_ne _ _ (fun e => absurd (hr' (.vec t' (xs ++ ys)) (by rw [e]; simp)) (by omega))
            have hmul : ∀ {p q m : Nat}, p < q → p * c.L.sz t' + c.L.sz t' ≤ q * c.L.sz t' := fun {p q m} hpq => by
              have : (p + 1) * c.L.sz t' ≤ q * c.L.sz t' := Nat.mul_le_mul_right _ hpq
              rwa [Nat.succ_mul] at this
            have encj : ∀ (x : El t') (j : Nat) (a : AVal El), (c.L.enc t' x)[j]? = some a → j < c.L.sz t' := fun x j a ha => by
              rcases Nat.lt_or_ge j (c.L.enc t' x).length with h' | h'
              · rw [c.L.enc_len] at h'; exact h'
              · rw [List.getElem?_eq_none h'] at ha; cases ha
            -- an append that grows, whatever the old cells
            have grow : ∀ (sa : Option Addr) (sCap : Nat) (olds : List Value) (ovals : Nat → Nat → Value), vs = .slice sa xs.length sCap → sCap < xs.length + ys.length →
                (Builtin.firstCells i.size xs.length (.slice sa xs.length sCap)).run c.P w.drew = .ok olds.toArray w.drew → olds.length = xs.length * c.L.sz t' →
                (∀ i j, i < xs.length → j < c.L.sz t' → olds[i * c.L.sz t' + j]? = some (ovals i j) ∧ (ovals i j).oneCell' = true) →
                (∀ i x, xs[i]? = some x → ∀ j a, (c.L.enc t' x)[j]? = some a → Rep c.L (fun _ => False) w noE a (ovals i j)) →
                ∃ u w' I' E', (Builtin.append_ #[sT, xT] ty #[vs, .slice xa ys.length xc]).run c.P w = .ok u w' ∧ Post c.L I E R w base [(r, .dead), (base, .vec t' (xs ++ ys))] (.vec base) u w' I' E' := by
              intro sa sCap olds ovals hvs hlt hfo holen hov horep
              subst hvs
              have hfit : Builtin.nextslicecap (xs.length + ys.length) sCap * i.bytes ≤ 281474976710656 := growslice_fits hlt hby
              have hrun := run_append_out (P := c.P) (w := w) (ty := ty) hus hux hi hz hlt hfo (by rw [his]; exact hf (w1 := w.drew) (fun _ => rfl)) (by omega) hfit
              have hcapge := grownCap_ge w (xs.length + ys.length) sCap t'
              have hsize : ((olds ++ news).toArray ++ Builtin.zeroCells z.cells (grownCap w (xs.length + ys.length) sCap t' - (xs.length + ys.length))).size = grownCap w (xs.length + ys.length) sCap t' * c.L.sz t' := by
                rw [Array.size_append, size_zeroCells, hzs]
                simp only [List.size_toArray, List.length_append, holen, src.len]
                rw [← Nat.add_mul, ← Nat.add_mul]
                congr 1; omega
              have hpost := kk.addVec (w1 := w.drew) hb t' (xs ++ ys) (grownCap w (xs.length + ys.length) sCap t') _ (by simpa using hcapge) hsize
                (fun i j => if i < xs.length then ovals i j else news.getD ((i - xs.length) * c.L.sz t' + j) undef)
                (by
                  intro q j hq hj
                  simp only [List.length_append] at hq
                  by_cases hqx : q < xs.length
                  · simp only [if_pos hqx]
                    have hlt' : q * c.L.sz t' + j < olds.length := by rw [holen]; have := hmul (m := 0) hqx; omega
                    refine ⟨?_, (hov q j hqx hj).2⟩
                    rw [Array.getElem?_append_left (by simp; omega), List.getElem?_toArray, List.getElem?_append_left hlt']
                    exact (hov q j hqx hj).1
                  · simp only [if_neg hqx]
                    have hq2 : q - xs.length < ys.length := by omega
                    have hk2 : (q - xs.length) * c.L.sz t' + j < news.length := by rw [src.len]; have := hmul (m := 0) hq2; omega
                    have hqe : q * c.L.sz t' = xs.length * c.L.sz t' + (q - xs.length) * c.L.sz t' := by rw [← Nat.add_mul]; congr 1; omega
                    have hidx : q * c.L.sz t' + j = olds.length + ((q - xs.length) * c.L.sz t' + j) := by rw [holen]; omega
                    rw [Array.getElem?_append_left (by simp; omega), List.getElem?_toArray, hidx, List.getElem?_append_right (by omega), Nat.add_sub_cancel_left, List.getD_eq_getElem?_getD, List.getElem?_eq_getElem hk2]
                    exact ⟨rfl, src.one _ (List.getElem_mem hk2)⟩)
                (by
                  intro q x hx' j a ha
                  by_cases hqx : q < xs.length
                  · simp only [if_pos hqx]
                    rw [List.getElem?_append_left hqx] at hx'
                    exact horep q x hx' j a ha
                  · simp only [if_neg hqx]
                    rw [List.getElem?_append_right (by omega)] at hx'
                    exact src.rep _ x hx' j a ha (flatL_at (c.flat_ok t' hfl x) ha))
                (Fr.drew w)
              have hl : (xs ++ ys).length = xs.length + ys.length := by simp
              rw [hl] at hpost
              exact ⟨_, _, _, _, hrun, ⟨kx.trans hpost.ext, hpost.hr, hpost.rep, names _ _ rfl⟩⟩
            cases hs with
            | vec he hone =>
              rw [h1] at he; cases he
              rcases h2 with ⟨k0, k1, a, k⟩ | ⟨b, cap, cells, vals, k1, k2, k3, k4, k5, k6, k7⟩
              · subst k1
                by_cases hy0 : ys.length = 0
                · -- nothing to append to nothing
                  have hye : ys = [] := List.eq_nil_of_length_eq_zero hy0
                  subst hye
                  have hnews : news = [] := by
                    have := src.len
                    simp at this
                    exact this
                  subst hnews
                  have hrun := run_append_in (P := c.P) (w := w) (ty := ty) (base := a) (sLen := 0) (sCap := 0) (n := 0) (xc := xc) (xa := xa) (news := []) hus hux hi (by omega) (by rw [his]; exact hf (w1 := w) (fun _ => rfl)) (w1 := w) (fun _ _ => rfl) (fun _ => rfl)
                  have hadd := kk.add0 (w' := w) hb ⟨none, .slice a 0 0⟩ (.vec t' []) (fun _ _ => rfl) (Nat.le_refl _) (.inl ⟨rfl, rfl, a, rfl⟩) (fun b hb => by cases hb)
                  refine ⟨_, w, I, E.put base ⟨none, .slice a 0 0⟩, by rw [k]; exact hrun, ⟨⟨fun _ h => h, Env.le_put hb, Fr.refl _ _, fun _ h => .inl h, ?_⟩, hadd, .vec (Env.put_same _ _ _) rfl, names _ _ rfl⟩⟩
                  rintro q ⟨r', e', g1, g2, g3⟩
                  simp only [updR] at g1
                  rw [getR_setR] at g1
                  by_cases hr' : r' = base
                  · subst hr'; rw [Env.put_same] at g2; cases g2; cases g3
                  · rw [if_neg hr'] at g1; rw [Env.put_ne _ _ hr'] at g2
                    exact .inl (killOwn q ⟨r', e', g1, g2, g3⟩).1
                · have hfirst : (Builtin.firstCells i.size ([] : List (El t')).length (.slice a ([] : List (El t')).length 0)).run c.P w.drew = .ok ([] : List Value).toArray w.drew := by
                    cases a with
                    | none => exact run_firstCells_none _ _ _ _ _
                    | some ad => exact run_firstCells_some _ _ _ _ _ _ [] (by simp) (fun j u hu => by simp at hu)
                  exact grow a 0 [] (fun _ _ => undef) k (by simp; omega) hfirst (by simp) (fun q j hq => by simp at hq) (fun q x hx => by simp at hx)
              · by_cases hroom : xs.length + ys.length ≤ cap
                · -- in place
                  have hcl : xs.length * i.size + news.length ≤ cells.size := by
                    rw [k5, his, src.len, ← Nat.add_mul]
                    exact Nat.mul_le_mul_right _ hroom
                  have hst := run_storeCells_at c.P b (xs.length * i.size) t' news 0 cells w k4 (by simpa using hcl) src.one
                  simp only [Nat.add_zero] at hst
                  have hrun := run_append_in (P := c.P) (w := w) (ty := ty) (base := some ⟨b, 0, none⟩) (sCap := cap) hus hux hi hroom (by rw [his]; exact hf (w1 := w) (fun _ => rfl))
                    (w1 := w.setRow b (cells.toList.take (xs.length * i.size) ++ news ++ cells.toList.drop (xs.length * i.size + news.length)).toArray)
                    (fun ad hd => by cases hd; rw [Addr.add_lit, Nat.zero_add]; exact hst) (fun hd => by cases hd)
                  have hbown : Own E R b := ⟨r, er, hrd, h1, k1⟩
                  have hsame : ∀ q, Own E (setR R r .dead) q ∨ I q → (w.setRow b (cells.toList.take (xs.length * i.size) ++ news ++ cells.toList.drop (xs.length * i.size + news.length)).toArray).heap[q]? = w.heap[q]? := by
                    rintro q (hq | hq)
                    · exact setRow_other w b q _ (fun e => (killOwn q hq).2 (e ▸ k1))
                    · exact setRow_other w b q _ (fun e => h.notI b hbown (e ▸ hq))
                  have hx' : HRes c.L I (w.setRow b (cells.toList.take (xs.length * i.size) ++ news ++ cells.toList.drop (xs.length * i.size + news.length)).toArray)
                      (E.put base ⟨some b, .slice (some ⟨b, 0, none⟩) (xs ++ ys).length cap⟩) ⟨some b, .slice (some ⟨b, 0, none⟩) (xs ++ ys).length cap⟩ (.vec t' (xs ++ ys)) := by
                    refine .inr ⟨b, cap, _, fun q j => if q < xs.length then vals q j else news.getD ((q - xs.length) * c.L.sz t' + j) undef, rfl, rfl, by simpa using hroom, setRow_heap w b _ _ t' (0, 0) k4, ?_, ?_, ?_⟩
                    · simp only [List.size_toArray, List.length_append, List.length_take, List.length_drop, Array.length_toList]
                      omega
                    · intro q j hq hj
                      simp only [List.length_append] at hq
                      have hspl := splice_get cells.toList news (xs.length * i.size) (by simpa using hcl) (q * c.L.sz t' + j)
                      rw [List.getElem?_toArray, hspl, his]
                      by_cases hqx : q < xs.length
                      · simp only [if_pos hqx]
                        have := hmul (m := 0) hqx
                        rw [if_neg (by omega)]
                        have := k6 q j hqx hj
                        simpa using this
                      · simp only [if_neg hqx]
                        have hq2 : q - xs.length < ys.length := by omega
                        have hk2 : (q - xs.length) * c.L.sz t' + j < news.length := by rw [src.len]; have := hmul (m := 0) hq2; omega
                        have hqe : q * c.L.sz t' = xs.length * c.L.sz t' + (q - xs.length) * c.L.sz t' := by rw [← Nat.add_mul]; congr 1; omega
                        rw [if_pos (by omega), show q * c.L.sz t' + j - xs.length * c.L.sz t' = (q - xs.length) * c.L.sz t' + j from by omega, List.getD_eq_getElem?_getD, List.getElem?_eq_getElem hk2]
                        exact ⟨rfl, src.one _ (List.getElem_mem hk2)⟩
                    · intro q x hx' j a ha
                      by_cases hqx : q < xs.length
                      · simp only [if_pos hqx]
                        rw [List.getElem?_append_left hqx] at hx'
                        exact (k7 q x hx' j a ha).mono (fun _ h => h) (fun _ h => h.elim) (Env.le_refl _)
                      · simp only [if_neg hqx]
                        rw [List.getElem?_append_right (by omega)] at hx'
                        exact (src.rep _ x hx' j a ha (flatL_at (c.flat_ok t' hfl x) ha)).mono (fun _ h => h) (fun _ h => h.elim) (Env.le_refl _)
                  have hadd := kk.add0 hb _ _ hsame (by simp) hx' (fun q hq => by
                    cases hq
                    exact ⟨fun ho => (killOwn b ho).2 k1, h.notI b hbown⟩)
                  have hl : (xs ++ ys).length = xs.length + ys.length := by simp
                  have hfr : Fr (Own E R) w (w.setRow b (cells.toList.take (xs.length * i.size) ++ news ++ cells.toList.drop (xs.length * i.size + news.length)).toArray) :=
                    ⟨rfl, rfl, rfl, by simp, fun q hq hno => setRow_other w b q _ (fun e => hno (e ▸ hbown))⟩
                  refine ⟨_, _, I, _, by rw [k2]; exact hrun, ⟨⟨fun _ h => h, Env.le_put hb, hfr, fun _ h => .inl h, ?_⟩, hadd, ?_, names _ _ rfl⟩⟩
                  · rintro q ⟨r', e', g1, g2, g3⟩
                    simp only [updR] at g1
                    rw [getR_setR] at g1
                    by_cases hr' : r' = base
                    · subst hr'; rw [Env.put_same] at g2; cases g2; cases g3; exact .inl hbown
                    · rw [if_neg hr'] at g1; rw [Env.put_ne _ _ hr'] at g2
                      exact .inl (killOwn q ⟨r', e', g1, g2, g3⟩).1
                  · rw [← hl]
                    exact .vec (Env.put_same _ _ _) rfl
                · -- a new row
                  have hle : (cells.toList.take (xs.length * c.L.sz t')).length = xs.length * c.L.sz t' := by
                    simp only [List.length_take, Array.length_toList, k5]
                    have : xs.length * c.L.sz t' ≤ cap * c.L.sz t' := Nat.mul_le_mul_right _ k3
                    omega
                  have hfirst : (Builtin.firstCells i.size xs.length (.slice (some ⟨b, 0, none⟩) xs.length cap)).run c.P w.drew = .ok (cells.toList.take (xs.length * c.L.sz t')).toArray w.drew := by
                    refine run_firstCells_some _ _ _ _ _ _ _ (by rw [hle, his]) (fun j u hu => ?_)
                    rw [List.getElem?_take] at hu
                    split at hu
                    · rw [cell?_drew', Addr.add_lit, Nat.zero_add, cell_of k4]
                      simpa using hu
                    · cases hu
                  refine grow (some ⟨b, 0, none⟩) cap _ vals k2 (by omega) hfirst hle (fun q j hq hj => ?_) k7
                  have := k6 q j hq hj
                  refine ⟨?_, this.2⟩
                  rw [List.getElem?_take, if_pos (by have := hmul (m := 0) hq; omega)]
                  simpa using this.1
          · exact ho.elim
        · exact ho.elim
      · exact ho.elim
    · exact ho.elim
  · exact ho.elim
end proofs
end Go.Ax
