/- A verified symbolic executor, part 9: appending to a slice of the run's own. Over any program; the facts on its types are given with it. -/
import Derived.Test.YtbadejabphdkiaaAx8
import Derived.IntWalk
set_option linter.unusedVariables false
set_option linter.unusedSimpArgs false
namespace Go.Ax
variable {El : TypeId → Type}
section proofs
variable {I : Nat → Prop} {E : Env} {R : List (Res El)} {w w' : World} {c : Cx El} {L : Lay El}

theorem run_append_in {P : Program} {sT xT ty e e2 : TypeId} {i : TypeInfo} (hs : P.underlying sT = some (.slice e)) (hx : P.underlying xT = some (.slice e2)) (hi : P.info? e = some i)
    {base : Option Addr} {sLen sCap n xc : Nat} {xa : Option Addr} {news : List Value} (hn : sLen + n ≤ sCap) (hf : (Builtin.firstCells i.size n (.slice xa n xc)).run P w = .ok news.toArray w)
    {w1 : World} (hst : ∀ a, base = some a → (storeCells (a.add (sLen * i.size)) news).run P w = .ok () w1) (hno : base = none → w1 = w) :
    (Builtin.append_ #[sT, xT] ty #[.slice base sLen sCap, .slice xa n xc]).run P w = .ok (.slice base (sLen + n) sCap) w1 := by
  cases base with
  | none =>
    rw [hno rfl]
    simp [Builtin.append_, run_underlying hs, run_underlying hx, sizeOf, typeInfo, hi, Builtin.lenOf, hn, hf]
  | some a =>
    have := hst a rfl
    simp [Builtin.append_, run_underlying hs, run_underlying hx, sizeOf, typeInfo, hi, Builtin.lenOf, hn, hf, this]

theorem run_append_out {P : Program} {sT xT ty e e2 : TypeId} {i : TypeInfo} {z : Value} (hs : P.underlying sT = some (.slice e)) (hx : P.underlying xT = some (.slice e2)) (hi : P.info? e = some i) (hz : i.zero = some z)
    {base : Option Addr} {sLen sCap n xc : Nat} {xa : Option Addr} {olds news : List Value} (hn : sCap < sLen + n) (hfo : (Builtin.firstCells i.size sLen (.slice base sLen sCap)).run P w.drew = .ok olds.toArray w.drew)
    (hf : (Builtin.firstCells i.size n (.slice xa n xc)).run P w.drew = .ok news.toArray w.drew) (h63 : ((sLen + n : Nat) : Int) ≤ 9223372036854775807) (hfit : Builtin.nextslicecap (sLen + n) sCap * i.bytes ≤ 281474976710656) :
    (Builtin.append_ #[sT, xT] ty #[.slice base sLen sCap, .slice xa n xc]).run P w =
      .ok (.slice (some ⟨w.heap.size, 0, none⟩) (sLen + n) (grownCap w (sLen + n) sCap e)) (w.drew.alloc (.cells ((olds ++ news).toArray ++ Builtin.zeroCells z.cells (grownCap w (sLen + n) sCap e - (sLen + n))) e)) := by
  have hn' : ¬ (sLen + n ≤ sCap) := by omega
  have h63' : ¬ (9223372036854775807 < ((sLen : Int) + (n : Int))) := by omega
  have h48' : ¬ (281474976710656 < Builtin.nextslicecap (sLen + n) sCap * i.bytes) := by omega
  simp [Builtin.append_, run_underlying hs, run_underlying hx, sizeOf, typeInfo, zeroValue, hi, hz, Builtin.lenOf, hn', h63', h48', Question.forced, hf, hfo, newRow, grownCap]
  congr 2
  apply Array.ext'
  simp [List.append_assoc]

theorem cell?_drew' (w : World) (a : Addr) : w.drew.cell? a = w.cell? a := rfl

theorem aAppend_ok (h : HR c.L I w E R) {base : Nat} (hb : E base = none) {sT xT ty : TypeId} {s x : AVal El} {vs vx : Value} {y : Eff El} (hs : Rep c.L I w E s vs) (hx : Rep c.L I w E x vx)
    (ho : (aAppend c R base sT xT s x).Out y) : ∃ u w' I' E', (Builtin.append_ #[sT, xT] ty #[vs, vx]).run c.P w = .ok u w' ∧ Post c.L I E R w base y.2 y.1 u w' I' E' := by
  unfold aAppend at ho
  split at ho
  · rename_i r e e2 hus hux
    split at ho
    · rename_i t xs i hg hi
      split at ho
      · rename_i hk
        obtain ⟨rfl, hk, hfl⟩ := hk
        split at ho
        · rename_i t' ys hsrc
          split at ho
          · rename_i htt
            subst htt
            simp only [Tree.Out] at ho
            obtain ⟨⟨hby, hmax⟩, rfl⟩ := ho
            obtain ⟨i', z, hi', hz, his, hzs, hpos, hzc⟩ := zero_of c hk
            rw [hi] at hi'; cases hi'
            obtain ⟨news, src⟩ := srcOf_ok h hx hsrc hpos
            have hf := fun {w1 : World} (hw : ∀ a, w1.cell? a = w.cell? a) => src.first c.P hw
            obtain ⟨xa, xc, rfl, hsrc2⟩ := src.val
            obtain ⟨er, h1, h2⟩ := h.res r (by rw [hg]; simp)
            have hrd : getR R r ≠ .dead := by rw [hg]; simp
            have hrb : r ≠ base := fun e => by rw [e] at h1; rw [hb] at h1; cases h1
            rw [hg] at h2
            obtain ⟨kk, kx⟩ := h.kill hrd h1 I (fun _ h => h) (fun _ h => .inl h)
            have killOwn : ∀ k, Own E (setR R r .dead) k → Own E R k ∧ er.blk ≠ some k := by
              rintro k ⟨r', e', g1, g2, g3⟩
              rw [getR_setR] at g1
              by_cases hrr : r' = r
              · rw [if_pos hrr] at g1; exact absurd rfl g1
              · rw [if_neg hrr] at g1
                exact ⟨⟨r', e', g1, g2, g3⟩, fun hk => hrr (h.apart r' r e' er k g1 hrd g2 h1 g3 hk)⟩
            have names : ∀ (E' : Env) (e' : REnv), E' = E.put base e' → ∀ r', (∀ x, (r', x) ∈ [(r, Res.dead), (base, Res.vec t' (xs ++ ys))] → r' < base) → E' r' = E r' := by
              rintro E' e' rfl r' hr'
              exact Env.put_ne _ _ (fun e => absurd (hr' (.vec t' (xs ++ ys)) (by rw [e]; simp)) (by omega))
            have hmul : ∀ {p q m : Nat}, p < q → p * c.L.sz t' + c.L.sz t' ≤ q * c.L.sz t' := fun {p q m} hpq => by
              have : (p + 1) * c.L.sz t' ≤ q * c.L.sz t' := Nat.mul_le_mul_right _ hpq
              rwa [Nat.succ_mul] at this
            have encj : ∀ (x : El t') (j : Nat) (a : AVal El), (c.L.enc t' x)[j]? = some a → j < c.L.sz t' := fun x j a ha => by
              rcases Nat.lt_or_ge j (c.L.enc t' x).length with h' | h'
              · rw [c.L.enc_len] at h'; exact h'
              · rw [List.getElem?_eq_none h'] at ha; cases ha
            -- an append that grows, whatever the old cells
            have grow : ∀ (sa : Option Addr) (sCap : Nat) (olds : List Value) (ovals : Nat → Nat → Value), vs = .slice sa xs.length sCap → sCap < xs.length + ys.length →
                (Builtin.firstCells i.size xs.length (.slice sa xs.length sCap)).run c.P w.drew = .ok olds.toArray w.drew → olds.length = xs.length * c.L.sz t' →
                (∀ i j, i < xs.length → j < c.L.sz t' → olds[i * c.L.sz t' + j]? = some (ovals i j) ∧ (ovals i j).oneCell' = true) →
                (∀ i x, xs[i]? = some x → ∀ j a, (c.L.enc t' x)[j]? = some a → Rep c.L (fun _ => False) w noE a (ovals i j)) →
                ∃ u w' I' E', (Builtin.append_ #[sT, xT] ty #[vs, .slice xa ys.length xc]).run c.P w = .ok u w' ∧ Post c.L I E R w base [(r, .dead), (base, .vec t' (xs ++ ys))] (.vec base) u w' I' E' := by
              intro sa sCap olds ovals hvs hlt hfo holen hov horep
              subst hvs
              have hfit : Builtin.nextslicecap (xs.length + ys.length) sCap * i.bytes ≤ 281474976710656 := growslice_fits hlt hby
              have hrun := run_append_out (P := c.P) (w := w) (ty := ty) hus hux hi hz hlt hfo (by rw [his]; exact hf (w1 := w.drew) (fun _ => rfl)) (by omega) hfit
              have hcapge := grownCap_ge w (xs.length + ys.length) sCap t'
              have hsize : ((olds ++ news).toArray ++ Builtin.zeroCells z.cells (grownCap w (xs.length + ys.length) sCap t' - (xs.length + ys.length))).size = grownCap w (xs.length + ys.length) sCap t' * c.L.sz t' := by
                rw [Array.size_append, size_zeroCells, hzs]
                simp only [List.size_toArray, List.length_append, holen, src.len]
                rw [← Nat.add_mul, ← Nat.add_mul]
                congr 1; omega
              have hpost := kk.addVec (w1 := w.drew) hb t' (xs ++ ys) (grownCap w (xs.length + ys.length) sCap t') _ (by simpa using hcapge) hsize
                (fun i j => if i < xs.length then ovals i j else news.getD ((i - xs.length) * c.L.sz t' + j) undef)
                (by
                  intro q j hq hj
                  simp only [List.length_append] at hq
                  by_cases hqx : q < xs.length
                  · simp only [if_pos hqx]
                    have hlt' : q * c.L.sz t' + j < olds.length := by rw [holen]; have := hmul (m := 0) hqx; omega
                    refine ⟨?_, (hov q j hqx hj).2⟩
                    rw [Array.getElem?_append_left (by simp; omega), List.getElem?_toArray, List.getElem?_append_left hlt']
                    exact (hov q j hqx hj).1
                  · simp only [if_neg hqx]
                    have hq2 : q - xs.length < ys.length := by omega
                    have hk2 : (q - xs.length) * c.L.sz t' + j < news.length := by rw [src.len]; have := hmul (m := 0) hq2; omega
                    have hqe : q * c.L.sz t' = xs.length * c.L.sz t' + (q - xs.length) * c.L.sz t' := by rw [← Nat.add_mul]; congr 1; omega
                    have hidx : q * c.L.sz t' + j = olds.length + ((q - xs.length) * c.L.sz t' + j) := by rw [holen]; omega
                    rw [Array.getElem?_append_left (by simp; omega), List.getElem?_toArray, hidx, List.getElem?_append_right (by omega), Nat.add_sub_cancel_left, List.getD_eq_getElem?_getD, List.getElem?_eq_getElem hk2]
                    exact ⟨rfl, src.one _ (List.getElem_mem hk2)⟩)
                (by
                  intro q x hx' j a ha
                  by_cases hqx : q < xs.length
                  · simp only [if_pos hqx]
                    rw [List.getElem?_append_left hqx] at hx'
                    exact horep q x hx' j a ha
                  · simp only [if_neg hqx]
                    rw [List.getElem?_append_right (by omega)] at hx'
                    exact src.rep _ x hx' j a ha (flatL_at (c.flat_ok t' hfl x) ha))
                (Fr.drew w)
              have hl : (xs ++ ys).length = xs.length + ys.length := by simp
              rw [hl] at hpost
              exact ⟨_, _, _, _, hrun, ⟨kx.trans hpost.ext, hpost.hr, hpost.rep, names _ _ rfl⟩⟩
            cases hs with
            | vec he hone =>
              rw [h1] at he; cases he
              rcases h2 with ⟨k0, k1, a, k⟩ | ⟨b, cap, cells, vals, k1, k2, k3, k4, k5, k6, k7⟩
              · subst k1
                by_cases hy0 : ys.length = 0
                · -- nothing to append to nothing
                  have hye : ys = [] := List.eq_nil_of_length_eq_zero hy0
                  subst hye
                  have hnews : news = [] := by
                    have := src.len
                    simp at this
                    exact this
                  subst hnews
                  have hrun := run_append_in (P := c.P) (w := w) (ty := ty) (base := a) (sLen := 0) (sCap := 0) (n := 0) (xc := xc) (xa := xa) (news := []) hus hux hi (by omega) (by rw [his]; exact hf (w1 := w) (fun _ => rfl)) (w1 := w) (fun _ _ => rfl) (fun _ => rfl)
                  have hadd := kk.add0 (w' := w) hb ⟨none, .slice a 0 0⟩ (.vec t' []) (fun _ _ => rfl) (Nat.le_refl _) (.inl ⟨rfl, rfl, a, rfl⟩) (fun b hb => by cases hb)
                  refine ⟨_, w, I, E.put base ⟨none, .slice a 0 0⟩, by rw [k]; exact hrun, ⟨⟨fun _ h => h, Env.le_put hb, Fr.refl _ _, fun _ h => .inl h, ?_⟩, hadd, .vec (Env.put_same _ _ _) rfl, names _ _ rfl⟩⟩
                  rintro q ⟨r', e', g1, g2, g3⟩
                  simp only [updR] at g1
                  rw [getR_setR] at g1
                  by_cases hr' : r' = base
                  · subst hr'; rw [Env.put_same] at g2; cases g2; cases g3
                  · rw [if_neg hr'] at g1; rw [Env.put_ne _ _ hr'] at g2
                    exact .inl (killOwn q ⟨r', e', g1, g2, g3⟩).1
                · have hfirst : (Builtin.firstCells i.size ([] : List (El t')).length (.slice a ([] : List (El t')).length 0)).run c.P w.drew = .ok ([] : List Value).toArray w.drew := by
                    cases a with
                    | none => exact run_firstCells_none _ _ _ _ _
                    | some ad => exact run_firstCells_some _ _ _ _ _ _ [] (by simp) (fun j u hu => by simp at hu)
                  exact grow a 0 [] (fun _ _ => undef) k (by simp; omega) hfirst (by simp) (fun q j hq => by simp at hq) (fun q x hx => by simp at hx)
              · by_cases hroom : xs.length + ys.length ≤ cap
                · -- in place
                  have hcl : xs.length * i.size + news.length ≤ cells.size := by
                    rw [k5, his, src.len, ← Nat.add_mul]
                    exact Nat.mul_le_mul_right _ hroom
                  have hst := run_storeCells_at c.P b (xs.length * i.size) t' news 0 cells w k4 (by simpa using hcl) src.one
                  simp only [Nat.add_zero] at hst
                  have hrun := run_append_in (P := c.P) (w := w) (ty := ty) (base := some ⟨b, 0, none⟩) (sCap := cap) hus hux hi hroom (by rw [his]; exact hf (w1 := w) (fun _ => rfl))
                    (w1 := w.setRow b (cells.toList.take (xs.length * i.size) ++ news ++ cells.toList.drop (xs.length * i.size + news.length)).toArray)
                    (fun ad hd => by cases hd; rw [Addr.add_lit, Nat.zero_add]; exact hst) (fun hd => by cases hd)
                  have hbown : Own E R b := ⟨r, er, hrd, h1, k1⟩
                  have hsame : ∀ q, Own E (setR R r .dead) q ∨ I q → (w.setRow b (cells.toList.take (xs.length * i.size) ++ news ++ cells.toList.drop (xs.length * i.size + news.length)).toArray).heap[q]? = w.heap[q]? := by
                    rintro q (hq | hq)
                    · exact setRow_other w b q _ (fun e => (killOwn q hq).2 (e ▸ k1))
                    · exact setRow_other w b q _ (fun e => h.notI b hbown (e ▸ hq))
                  have hx' : HRes c.L I (w.setRow b (cells.toList.take (xs.length * i.size) ++ news ++ cells.toList.drop (xs.length * i.size + news.length)).toArray)
                      (E.put base ⟨some b, .slice (some ⟨b, 0, none⟩) (xs ++ ys).length cap⟩) ⟨some b, .slice (some ⟨b, 0, none⟩) (xs ++ ys).length cap⟩ (.vec t' (xs ++ ys)) := by
                    refine .inr ⟨b, cap, _, fun q j => if q < xs.length then vals q j else news.getD ((q - xs.length) * c.L.sz t' + j) undef, rfl, rfl, by simpa using hroom, setRow_heap w b _ _ t' (0, 0) k4, ?_, ?_, ?_⟩
                    · simp only [List.size_toArray, List.length_append, List.length_take, List.length_drop, Array.length_toList]
                      omega
                    · intro q j hq hj
                      simp only [List.length_append] at hq
                      have hspl := splice_get cells.toList news (xs.length * i.size) (by simpa using hcl) (q * c.L.sz t' + j)
                      rw [List.getElem?_toArray, hspl, his]
                      by_cases hqx : q < xs.length
                      · simp only [if_pos hqx]
                        have := hmul (m := 0) hqx
                        rw [if_neg (by omega)]
                        have := k6 q j hqx hj
                        simpa using this
                      · simp only [if_neg hqx]
                        have hq2 : q - xs.length < ys.length := by omega
                        have hk2 : (q - xs.length) * c.L.sz t' + j < news.length := by rw [src.len]; have := hmul (m := 0) hq2; omega
                        have hqe : q * c.L.sz t' = xs.length * c.L.sz t' + (q - xs.length) * c.L.sz t' := by rw [← Nat.add_mul]; congr 1; omega
                        rw [if_pos (by omega), show q * c.L.sz t' + j - xs.length * c.L.sz t' = (q - xs.length) * c.L.sz t' + j from by omega, List.getD_eq_getElem?_getD, List.getElem?_eq_getElem hk2]
                        exact ⟨rfl, src.one _ (List.getElem_mem hk2)⟩
                    · intro q x hx' j a ha
                      by_cases hqx : q < xs.length
                      · simp only [if_pos hqx]
                        rw [List.getElem?_append_left hqx] at hx'
                        exact (k7 q x hx' j a ha).mono (fun _ h => h) (fun _ h => h.elim) (Env.le_refl _)
                      · simp only [if_neg hqx]
                        rw [List.getElem?_append_right (by omega)] at hx'
                        exact (src.rep _ x hx' j a ha (flatL_at (c.flat_ok t' hfl x) ha)).mono (fun _ h => h) (fun _ h => h.elim) (Env.le_refl _)
                  have hadd := kk.add0 hb _ _ hsame (by simp) hx' (fun q hq => by
                    cases hq
                    exact ⟨fun ho => (killOwn b ho).2 k1, h.notI b hbown⟩)
                  have hl : (xs ++ ys).length = xs.length + ys.length := by simp
                  have hfr : Fr (Own E R) w (w.setRow b (cells.toList.take (xs.length * i.size) ++ news ++ cells.toList.drop (xs.length * i.size + news.length)).toArray) :=
                    ⟨rfl, rfl, rfl, by simp, fun q hq hno => setRow_other w b q _ (fun e => hno (e ▸ hbown))⟩
                  refine ⟨_, _, I, _, by rw [k2]; exact hrun, ⟨⟨fun _ h => h, Env.le_put hb, hfr, fun _ h => .inl h, ?_⟩, hadd, ?_, names _ _ rfl⟩⟩
                  · rintro q ⟨r', e', g1, g2, g3⟩
                    simp only [updR] at g1
                    rw [getR_setR] at g1
                    by_cases hr' : r' = base
                    · subst hr'; rw [Env.put_same] at g2; cases g2; cases g3; exact .inl hbown
                    · rw [if_neg hr'] at g1; rw [Env.put_ne _ _ hr'] at g2
                      exact .inl (killOwn q ⟨r', e', g1, g2, g3⟩).1
                  · rw [← hl]
                    exact .vec (Env.put_same _ _ _) rfl
                · -- a new row
                  have hle : (cells.toList.take (xs.length * c.L.sz t')).length = xs.length * c.L.sz t' := by
                    simp only [List.length_take, Array.length_toList, k5]
                    have : xs.length * c.L.sz t' ≤ cap * c.L.sz t' := Nat.mul_le_mul_right _ k3
                    omega
                  have hfirst : (Builtin.firstCells i.size xs.length (.slice (some ⟨b, 0, none⟩) xs.length cap)).run c.P w.drew = .ok (cells.toList.take (xs.length * c.L.sz t')).toArray w.drew := by
                    refine run_firstCells_some _ _ _ _ _ _ _ (by rw [hle, his]) (fun j u hu => ?_)
                    rw [List.getElem?_take] at hu
                    split at hu
                    · rw [cell?_drew', Addr.add_lit, Nat.zero_add, cell_of k4]
                      simpa using hu
                    · cases hu
                  refine grow (some ⟨b, 0, none⟩) cap _ vals k2 (by omega) hfirst hle (fun q j hq hj => ?_) k7
                  have := k6 q j hq hj
                  refine ⟨?_, this.2⟩
                  rw [List.getElem?_take, if_pos (by have := hmul (m := 0) hq; omega)]
                  simpa using this.1
          · exact ho.elim
        · exact ho.elim
      · exact ho.elim
    · exact ho.elim
  · exact ho.elim
end proofs

section defs
variable (c : Cx El) (R : List (Res El))

def aCap (t : TypeId) (x : AVal El) : Tree (AVal El) :=
  match c.P.underlying t with
  | some (.array n _) => .leaf (.int .i64 n)
  | some (.slice _) => match x with
    | .nils => .leaf (.int .i64 0)
    | .cs _ _ n => .leaf (.int .i64 n)
    | _ => .fail
  | _ => .fail

/-- An append of noughts to nothing. -/
def aAppendMake (base : Nat) (e : TypeId) (x : AVal El) : Tree (Eff El) :=
  match x, c.P.info? e with
  | .int _ n, some i => if c.known e = true ∧ c.flat e = true then
      .need (0 < n ∧ (i.bytes : Int) * n ≤ 140737488355328 ∧ n ≤ 140737488355328) (.leaf (.vec base, [(base, .vec e (List.replicate n.toNat (c.L.dflt e)))]))
    else .fail
  | _, _ => .fail

def isNils : AVal El → Bool
  | .nils => true
  | _ => false

/-- Appends, to nil too. -/
def aAppend2 (base : Nat) (sT xT : TypeId) (s x : AVal El) : Tree (Eff El) :=
  match isNils s, c.P.underlying sT, c.P.underlying xT with
  | true, some (.slice e), some (.int _) => aAppendMake c base e x
  | true, some (.slice e), some (.slice _) => match isNils x with
    | true => if c.known e = true then .leaf (.nils, []) else .fail
    | false => (aAppend c (setR R base (.vec e [])) (base + 1) sT xT (.vec base) x).bind fun y => .leaf (y.1, (base, .vec e []) :: y.2)
  | _, _, _ => aAppend c R base sT xT s x

/-- A cut: of a vector's head, it stays one. -/
def aSlice2 (base : Nat) (t : TypeId) (x : AVal El) (lo hi mx : Option (AVal El)) : Tree (Eff El) :=
  match x, lo, hi, mx with
  | .vec r, none, some (.int _ h), none => match getR R r, c.P.underlying t with
    | .vec t' xs, some (.slice e) => if t' = e ∧ c.known e = true then
        .need (0 ≤ h ∧ h ≤ xs.length) (.leaf (.vec base, [(r, .dead), (base, .vec t' (xs.take h.toNat))]))
      else .fail
    | _, _ => .fail
  | .nils, none, some (.int _ h), none => match c.P.underlying t with
    | some (.slice e) => if c.known e = true then .need (h = 0) (.leaf (.nils, [])) else .fail
    | _ => .fail
  | x, lo, hi, mx => aSlice c R t x lo hi mx

/-- A slice written out: of parts that hold names, as cells. -/
def aBuildSlice2 (base : Nat) (t : TypeId) (len : Nat) (parts : List (Nat × AVal El)) : Tree (Eff El) :=
  match c.P.underlying t with
  | some (.slice e) => match c.flat e with
    | true => aBuildSlice c base t len parts
    | false => if c.known e = true ∧ len * c.L.sz e ≤ 16777216 then
        match aFill (fun i => some (i * c.L.sz e, c.L.sz e)) (topsF (len * c.L.sz e)) parts with
        | some cs => .leaf (.cs base 0 len, [(base, .cells e cs)])
        | none => .fail
      else .fail
  | _ => .fail
end defs

section proofs
variable {I : Nat → Prop} {E : Env} {R : List (Res El)} {w w' : World} {c : Cx El} {L : Lay El}

theorem aCap_ok {t ty : TypeId} {x r : AVal El} {v : Value} (hx : Rep c.L I w E x v) (ho : (aCap c t x).Out r) :
    ∃ u, (Builtin.cap_ #[t] ty #[v]).run c.P w = .ok u w ∧ Rep c.L I w E r u := by
  unfold aCap at ho
  split at ho
  · rename_i n e hu
    simp only [Tree.Out] at ho; subst ho
    exact ⟨_, by simp [Builtin.cap_, run_underlying hu]; rfl, .int⟩
  · rename_i e hu
    split at ho
    · simp only [Tree.Out] at ho; subst ho
      cases hx
      exact ⟨_, by simp [Builtin.cap_, run_underlying hu]; rfl, .int⟩
    · simp only [Tree.Out] at ho; subst ho
      cases hx
      exact ⟨_, by simp [Builtin.cap_, run_underlying hu]; rfl, .int⟩
    · exact ho.elim
  · exact ho.elim

set_option maxRecDepth 4000 in
theorem run_append_make {P : Program} {sT xT ty e : TypeId} {q k : IntKind} {i : TypeInfo} {z : Value} (hs : P.underlying sT = some (.slice e)) (hx : P.underlying xT = some (.int q)) (hi : P.info? e = some i) (hz : i.zero = some z)
    {n : Int} (h0 : 0 < n) (hmax : n ≤ 140737488355328) (hby : (i.bytes : Int) * n ≤ 140737488355328) (hsz : 0 < i.size) :
    (Builtin.append_ #[sT, xT] ty #[.slice none 0 0, .int k n]).run P w =
      .ok (.slice (some ⟨w.heap.size, 0, none⟩) n.toNat (grownCap w n.toNat 0 e)) (w.drew.alloc (.cells (Builtin.zeroCells z.cells n.toNat ++ Builtin.zeroCells z.cells (grownCap w n.toNat 0 e - n.toNat)) e)) := by
  obtain ⟨m, rfl⟩ : ∃ m : Nat, n = m := ⟨n.toNat, by omega⟩
  have hw : IntKind.i64.wrap (m : Int) = m := IntWalk.i64_in _ (by omega)
  have hn : ¬ ((m : Int) < 0) := by omega
  have hm0 : ¬ m = 0 := by omega
  have hb2 : (m : Int) * (i.bytes : Int) ≤ 140737488355328 := by rw [Int.mul_comm]; exact hby
  have hb3 : ¬ ((281474976710656 : Int) < (m : Int) * (i.bytes : Int)) := by omega
  have hb4 : m * i.bytes ≤ 140737488355328 := by
    have h := hb2
    rw [← Int.natCast_mul] at h
    omega
  have h63 : ¬ ((9223372036854775807 : Int) < (m : Int)) := by omega
  have hcap : Builtin.nextslicecap m 0 = m := by
    unfold Builtin.nextslicecap
    rw [if_pos (by omega)]
  have h48 : ¬ (281474976710656 < m * i.bytes) := by omega
  have hsz0 : ¬ (i.size = 0) := by omega
  simp [Builtin.append_, run_underlying hs, run_underlying hx, sizeOf, typeInfo, zeroValue, hi, hz, asInt, asIntOf, hw, hn, hb3, hm0, h63, hcap, h48, hsz0, Question.forced, newRow, grownCap, Builtin.firstCells]
  intro h0'
  rcases Nat.mul_eq_zero.1 h0' with h | h
  · exact absurd h hm0
  · exact absurd h hsz0

theorem aAppendMake_ok (h : HR c.L I w E R) {base : Nat} (hb : E base = none) {sT xT ty e : TypeId} {q : IntKind} (hs : c.P.underlying sT = some (.slice e)) (hxT : c.P.underlying xT = some (.int q)) {x : AVal El} {vx : Value} {y : Eff El}
    (hx : Rep c.L I w E x vx) (ho : (aAppendMake c base e x).Out y) : ∃ u w' I' E', (Builtin.append_ #[sT, xT] ty #[.slice none 0 0, vx]).run c.P w = .ok u w' ∧ Post c.L I E R w base y.2 y.1 u w' I' E' := by
  unfold aAppendMake at ho
  split at ho
  · rename_i k n i hi
    split at ho
    · rename_i hkn
      obtain ⟨hkn, hfl⟩ := hkn
      simp only [Tree.Out] at ho
      obtain ⟨⟨h0, hby, hmax⟩, rfl⟩ := ho
      cases hx
      obtain ⟨i', z, hi', hz, his, hzs, hpos, hzc⟩ := zero_of c hkn
      rw [hi] at hi'; cases hi'
      have hrun := run_append_make (P := c.P) (w := w) (ty := ty) (k := k) hs hxT hi hz h0 hmax hby (by omega)
      have hcapge := grownCap_ge w n.toNat 0 e
      have hsize : (Builtin.zeroCells z.cells n.toNat ++ Builtin.zeroCells z.cells (grownCap w n.toNat 0 e - n.toNat)).size = grownCap w n.toNat 0 e * c.L.sz e := by
        rw [Array.size_append, size_zeroCells, size_zeroCells, hzs, ← Nat.add_mul]
        congr 1; omega
      have hcell : ∀ q j : Nat, q < n.toNat → j < c.L.sz e → (Builtin.zeroCells z.cells n.toNat ++ Builtin.zeroCells z.cells (grownCap w n.toNat 0 e - n.toNat))[q * c.L.sz e + j]? = some (z.cells[j]?.getD undef) := by
        intro q j hq hj
        have hlt : q * c.L.sz e + j < n.toNat * c.L.sz e := by
          have : (q + 1) * c.L.sz e ≤ n.toNat * c.L.sz e := Nat.mul_le_mul_right _ (by omega)
          rw [Nat.succ_mul] at this; omega
        have hmod : (q * c.L.sz e + j) % z.cells.size = j := by rw [hzs, Nat.mul_comm, Nat.mul_add_mod, Nat.mod_eq_of_lt hj]
        have hjz : j < z.cells.size := by omega
        rw [Array.getElem?_append_left (by rw [size_zeroCells, hzs]; exact hlt)]
        unfold Builtin.zeroCells
        rw [Array.getElem?_map, Array.getElem?_range, if_pos (by rw [hzs]; exact hlt)]
        simp only [Option.map_some, hmod]
        rw [getElem!_pos z.cells j hjz, Array.getElem?_eq_getElem hjz]
        rfl
      have hpost := h.addVec (w1 := w.drew) hb e (List.replicate n.toNat (c.L.dflt e)) (grownCap w n.toNat 0 e) _ (by simpa using hcapge) hsize (fun q j => z.cells[j]?.getD undef)
        (by
          intro q j hq hj
          rw [List.length_replicate] at hq
          refine ⟨hcell q j hq hj, ?_⟩
          obtain ⟨v, g1, g2, _⟩ := hzc j hj
          rw [g1]; exact g2)
        (by
          intro q x hx j a ha
          have hq : q < n.toNat := by
            rcases Nat.lt_or_ge q (List.replicate n.toNat (c.L.dflt e)).length with h' | h'
            · simpa using h'
            · rw [List.getElem?_eq_none h'] at hx; cases hx
          rw [List.getElem?_replicate, if_pos hq] at hx
          cases hx
          have hj : j < c.L.sz e := by
            rcases Nat.lt_or_ge j (c.L.enc e (c.L.dflt e)).length with h' | h'
            · rw [c.L.enc_len] at h'; exact h'
            · rw [List.getElem?_eq_none h'] at ha; cases ha
          obtain ⟨v, g1, g2, g3⟩ := hzc j hj
          rw [g1]
          exact g3 _ _ a ha)
        (Fr.drew w)
      refine ⟨_, _, _, _, ?_, hpost⟩
      rw [hrun, List.length_replicate]
      rfl
    · exact ho.elim
  · exact ho.elim

theorem isNils_ok {s : AVal El} {v : Value} (hs : Rep L I w E s v) (h : isNils s = true) : v = .slice none 0 0 := by
  cases s <;> simp [isNils] at h
  cases hs; rfl

theorem aAppend2_ok (h : HR c.L I w E R) {base : Nat} {sT xT ty : TypeId} {s x : AVal El} {vs vx : Value} {y : Eff El} (hs : Rep c.L I w E s vs) (hx : Rep c.L I w E x vx)
    (ho : (aAppend2 c R base sT xT s x).Out y) (hfree : ∀ r x, (r, x) ∈ y.2 → base ≤ r → E r = none) (hone : ∀ y', (aAppend c R base sT xT s x).Out y' → ∃ x, (base, x) ∈ y'.2) :
    ∃ u w' I' E', (Builtin.append_ #[sT, xT] ty #[vs, vx]).run c.P w = .ok u w' ∧ Post c.L I E R w base y.2 y.1 u w' I' E' := by
  have plain : (aAppend c R base sT xT s x).Out y → ∃ u w' I' E', (Builtin.append_ #[sT, xT] ty #[vs, vx]).run c.P w = .ok u w' ∧ Post c.L I E R w base y.2 y.1 u w' I' E' := fun ho => by
    obtain ⟨x', hx'⟩ := hone y ho
    exact aAppend_ok h (hfree _ _ hx' (Nat.le_refl _)) hs hx ho
  unfold aAppend2 at ho
  split at ho
  · rename_i e q hn hu hxu
    have := isNils_ok hs hn; subst this
    have hb : E base = none := by
      have ho' := ho
      unfold aAppendMake at ho'
      split at ho'
      · split at ho'
        · simp only [Tree.Out] at ho'
          obtain ⟨_, rfl⟩ := ho'
          exact hfree base _ (List.mem_singleton.2 rfl) (Nat.le_refl _)
        · exact ho'.elim
      · exact ho'.elim
    exact aAppendMake_ok h hb hu hxu hx ho
  · rename_i e e2 hn hu hxu
    have := isNils_ok hs hn; subst this
    split at ho
    · rename_i hnx
      have := isNils_ok hx hnx; subst this
      split at ho
      · rename_i hk
        simp only [Tree.Out] at ho; subst ho
        refine ⟨.slice none 0 0, w, I, E, ?_, h.still .nils⟩
        obtain ⟨i, z, hi, _⟩ := zero_of c hk
        simp [Builtin.append_, run_underlying hu, run_underlying hxu, sizeOf, typeInfo, hi, Builtin.lenOf, Builtin.firstCells]
      · exact ho.elim
    · obtain ⟨y', ho', hy⟩ := Tree.out_bind.1 ho
      simp only [Tree.Out] at hy; subst hy
      have hb : E base = none := hfree base _ (List.mem_cons_self) (Nat.le_refl _)
      obtain ⟨g1, g2⟩ := h.add hb ⟨none, .slice none 0 0⟩ (.vec e []) (Fr.refl _ _) (.inl ⟨rfl, rfl, none, rfl⟩) (fun b hb => by cases hb)
      have hb1 : E (base + 1) = none := by
        have ho2 := ho'
        unfold aAppend at ho2
        split at ho2 <;> try exact ho2.elim
        split at ho2 <;> try exact ho2.elim
        split at ho2 <;> try exact ho2.elim
        split at ho2 <;> try exact ho2.elim
        split at ho2 <;> try exact ho2.elim
        simp only [Tree.Out] at ho2
        obtain ⟨_, rfl⟩ := ho2
        exact hfree (base + 1) _ (List.mem_cons_of_mem _ (List.mem_cons_of_mem _ (List.mem_singleton.2 rfl))) (by omega)
      have hx' := hx.mono (fun _ h => h) (fun _ _ => rfl) (Env.le_put (e := ⟨none, .slice none 0 0⟩) hb)
      obtain ⟨u, w', I', E', k1, k2⟩ := aAppend_ok (ty := ty) g1 (base := base + 1) (by rw [Env.put_ne _ _ (by omega)]; exact hb1) (Rep.vec (Env.put_same E base ⟨none, .slice none 0 0⟩) rfl) hx' ho'
      refine ⟨u, w', I', E', k1, ⟨g2.trans k2.ext, k2.hr, k2.rep, fun r hr => ?_⟩⟩
      have hrb : r ≠ base := fun hrb => absurd (hr (.vec e []) (by rw [hrb]; exact List.mem_cons_self)) (by omega)
      rw [k2.names r (fun x hx => by have := hr x (List.mem_cons_of_mem _ hx); omega), Env.put_ne _ _ hrb]
  · exact plain ho

theorem aSlice2_ok (h : HR c.L I w E R) {base : Nat} {t : TypeId} {x : AVal El} {v : Value} {lo hi mx : Option (AVal El)} {vlo vhi vmx : Option Value} {y : Eff El} (hx : Rep c.L I w E x v)
    (hlo : OptRep c.L I w E lo vlo) (hhi : OptRep c.L I w E hi vhi) (hmx : OptRep c.L I w E mx vmx) (ho : (aSlice2 c R base t x lo hi mx).Out y) (hfree : ∀ r x, (r, x) ∈ y.2 → base ≤ r → E r = none) :
    ∃ u w' I' E', (Instr.sliceAt t v vlo vhi vmx).run c.P w = .ok u w' ∧ Post c.L I E R w base y.2 y.1 u w' I' E' := by
  unfold aSlice2 at ho
  split at ho
  · rename_i r k hh
    split at ho
    · rename_i t' xs e hg hu
      split at ho
      · rename_i hk
        obtain ⟨rfl, hk⟩ := hk
        simp only [Tree.Out] at ho
        obtain ⟨⟨p1, p2⟩, rfl⟩ := ho
        have hb : E base = none := hfree base _ (List.mem_cons_of_mem _ (List.mem_singleton.2 rfl)) (Nat.le_refl _)
        obtain ⟨m, rfl⟩ : ∃ m : Nat, hh = m := ⟨hh.toNat, by omega⟩
        have p2 : m ≤ xs.length := by omega
        obtain ⟨er, h1, h2⟩ := h.res r (by rw [hg]; simp)
        have hrd : getR R r ≠ .dead := by rw [hg]; simp
        rw [hg] at h2
        have hsz := (c.known_ok _ hk).1
        cases vlo with
        | some _ => exact hlo.elim
        | none =>
        cases vmx with
        | some _ => exact hmx.elim
        | none =>
        cases vhi with
        | none => exact hhi.elim
        | some vh =>
        cases hhi
        cases hx with
        | vec he hone =>
        rw [h1] at he; cases he
        obtain ⟨kk, kx⟩ := h.kill hrd h1 I (fun _ h => h) (fun _ h => .inl h)
        have killOwn : ∀ k, Own E (setR R r .dead) k → Own E R k ∧ er.blk ≠ some k := by
          rintro k ⟨r', e', g1, g2, g3⟩
          rw [getR_setR] at g1
          by_cases hrr : r' = r
          · rw [if_pos hrr] at g1; exact absurd rfl g1
          · rw [if_neg hrr] at g1
            exact ⟨⟨r', e', g1, g2, g3⟩, fun hk => hrr (h.apart r' r e' er k g1 hrd g2 h1 g3 hk)⟩
        -- the shorter value
        obtain ⟨raw, hraw, hrun, hone', hres, hblk⟩ : ∃ raw, ∃ e' : REnv, (Instr.sliceAt t er.raw none (some (.int k m)) none).run c.P w = .ok raw w ∧ raw.oneCell' = true ∧
            HRes c.L I w (E.put base ⟨er.blk, raw⟩) ⟨er.blk, raw⟩ (.vec t' (xs.take m)) ∧ True := by
          rcases h2 with ⟨k0, rfl, a, ka⟩ | ⟨b, cap, cells, vals, k1, k2, k3, k4, k5, k6, k7⟩
          · have hm : m = 0 := by simpa using p2
            subst hm
            refine ⟨.slice a 0 0, er, ?_, rfl, .inl ⟨k0, by simp, a, rfl⟩, trivial⟩
            rw [ka]
            simp [Instr.sliceAt, run_underlying hu, Instr.slice, run_sliceBounds (P := c.P) (len := 0) (cap := 0) (l := 0) (h := 0) (m := 0) (vlo := none) (vhi := some (.int k 0)) (vmx := none) (.inl ⟨rfl, rfl⟩) (.inr ⟨k, rfl, Nat.le_refl _⟩) (.inl ⟨rfl, rfl⟩) w, info_size hsz]
          · refine ⟨.slice (some ⟨b, 0, none⟩) m cap, er, ?_, rfl, .inr ⟨b, cap, cells, vals, k1, ?_, ?_, k4, k5, fun i j hi hj => k6 i j ?_ hj, fun i x hx j q hq => ?_⟩, trivial⟩
            · rw [k2]
              by_cases hc0 : cap = 0
              · subst hc0
                have hm0 : m = 0 := by omega
                subst hm0
                simp [Instr.sliceAt, run_underlying hu, Instr.slice, run_sliceBounds (P := c.P) (len := xs.length) (cap := 0) (l := 0) (h := 0) (m := 0) (vlo := none) (vhi := some (.int k 0)) (vmx := none) (.inl ⟨rfl, rfl⟩) (.inr ⟨k, rfl, Nat.le_refl _⟩) (.inl ⟨rfl, rfl⟩) w, info_size hsz]
              · simp [Instr.sliceAt, run_underlying hu, Instr.slice, run_sliceBounds (P := c.P) (len := xs.length) (cap := cap) (l := 0) (h := m) (m := cap) (vlo := none) (vhi := some (.int k m)) (vmx := none) (.inl ⟨rfl, rfl⟩) (.inr ⟨k, rfl, by omega⟩) (.inl ⟨rfl, rfl⟩) w, info_size hsz, hc0, Addr.add_lit]
            · simp; omega
            · simp; omega
            · simp at hi; omega
            · rw [List.getElem?_take] at hx
              split at hx
              · exact k7 i x hx j q hq
              · cases hx
        have hadd := kk.add0 (w' := w) hb ⟨er.blk, raw⟩ (.vec t' (xs.take m)) (fun _ _ => rfl) (Nat.le_refl _) hres (fun b hb => ⟨fun ho => (killOwn b ho).2 hb, h.notI b ⟨r, er, hrd, h1, hb⟩⟩)
        refine ⟨raw, w, I, _, hrun, ⟨⟨fun _ h => h, Env.le_put hb, Fr.refl _ _, fun _ h => .inl h, ?_⟩, hadd, .vec (Env.put_same E base ⟨er.blk, raw⟩) hone', fun r' hr' => ?_⟩⟩
        · rintro q ⟨r', e', g1, g2, g3⟩
          simp only [updR] at g1
          rw [getR_setR] at g1
          by_cases hr' : r' = base
          · subst hr'; rw [Env.put_same] at g2; cases g2
            exact .inl ⟨r, er, hrd, h1, g3⟩
          · rw [if_neg hr'] at g1; rw [Env.put_ne _ _ hr'] at g2
            exact .inl (killOwn q ⟨r', e', g1, g2, g3⟩).1
        · exact Env.put_ne _ _ (fun e => absurd (hr' _ (by rw [e]; exact List.mem_cons_of_mem _ (List.mem_singleton.2 rfl))) (by omega))
      · exact ho.elim
    · exact ho.elim
  · rename_i k hh
    split at ho
    · rename_i e hu
      split at ho
      · rename_i hk
        simp only [Tree.Out] at ho
        obtain ⟨rfl, rfl⟩ := ho
        have hsz := (c.known_ok _ hk).1
        cases vlo with
        | some _ => exact hlo.elim
        | none =>
        cases vmx with
        | some _ => exact hmx.elim
        | none =>
        cases vhi with
        | none => exact hhi.elim
        | some vh =>
        cases hhi
        cases hx
        refine ⟨.slice none 0 0, w, I, E, ?_, h.still .nils⟩
        simp [Instr.sliceAt, run_underlying hu, Instr.slice, run_sliceBounds (P := c.P) (len := 0) (cap := 0) (l := 0) (h := 0) (m := 0) (vlo := none) (vhi := some (.int k 0)) (vmx := none) (.inl ⟨rfl, rfl⟩) (.inr ⟨k, rfl, Nat.le_refl _⟩) (.inl ⟨rfl, rfl⟩) w, info_size hsz]
      · exact ho.elim
    · exact ho.elim
  · exact aSlice_ok h hx hlo hhi hmx ho

theorem aBuildSlice2_ok (h : HR c.L I w E R) {base : Nat} (hb : E base = none) {t : TypeId} {len : Nat} {parts : List (Nat × AVal El)} {pv : List (Nat × Value)} {y : Eff El} (hp : PartsRep c.L I w E parts pv)
    (ho : (aBuildSlice2 c base t len parts).Out y) : ∃ u w' I' E', (Instr.buildSlice t len pv.toArray).run c.P w = .ok u w' ∧ Post c.L I E R w base y.2 y.1 u w' I' E' := by
  unfold aBuildSlice2 at ho
  split at ho
  · rename_i e hu
    split at ho
    · exact aBuildSlice_ok h hb hp ho
    · split at ho
      · rename_i hk
        obtain ⟨hk, hsmall⟩ := hk
        split at ho
        · rename_i cs hfill
          simp only [Tree.Out] at ho; subst ho
          obtain ⟨i, z, hi, hz, his, hzs, hpos, hzc⟩ := zero_of c hk
          have hzero : ∀ k : Nat, z.cells[k % z.cells.size]! ∈ z.cells.toList := by
            intro k
            have : k % z.cells.size < z.cells.size := Nat.mod_lt _ (by rw [hzs]; exact hpos)
            rw [getElem!_pos z.cells _ this]
            simp
          have hzone : ∀ v ∈ z.cells.toList, v.oneCell' = true := by
            intro v hv
            obtain ⟨k, hk'⟩ := List.mem_iff_getElem?.1 hv
            have hlt : k < c.L.sz e := by
              rcases Nat.lt_or_ge k z.cells.toList.length with h' | h'
              · simpa [hzs] using h'
              · rw [List.getElem?_eq_none h'] at hk'; cases hk'
            obtain ⟨v', g1, g2, _⟩ := hzc k hlt
            rw [Array.getElem?_toList, g1] at hk'; cases hk'
            exact g2
          obtain ⟨us, k1, k2, k3⟩ := aFill_ok hp hfill (topsF_reps (L := c.L) (I := I) (w := w) (E := E) (len * c.L.sz e) ((List.range (len * c.L.sz e)).map (fun k => z.cells[k % z.cells.size]!)) (by simp))
            (fun v hv => by
              obtain ⟨k, _, rfl⟩ := List.mem_map.1 hv
              exact hzone _ (hzero k))
          have hpost := h.addCells hb e k2 k3
          refine ⟨.slice (some ⟨w.heap.size, 0, none⟩) len len, _, _, _, ?_, ⟨hpost.ext, hpost.hr, .cs (Env.put_same _ _ _), hpost.names⟩⟩
          have hfill' : Instr.fill (fun i => some (i * c.L.sz e, c.L.sz e)) ((Array.range (len * c.L.sz e)).map (fun k => z.cells[k % z.cells.size]!)) pv = some us.toArray := by
            rw [← k1]
            congr 1
            apply Array.ext'
            simp
          by_cases h0 : len * c.L.sz e = 0
          · have hfill0 : Instr.fill (fun i => some (i * c.L.sz e, c.L.sz e)) ((Array.range (len * c.L.sz e)).map (fun k => (#[] : Array Value)[k % (#[] : Array Value).size]!)) pv = some us.toArray := by
              rw [← hfill', h0, Array.range_zero']; simp
            have h24 : ¬ (16777216 < len * c.L.sz e) := by omega
            simp only [Instr.buildSlice, run_underlying hu, sizeOf, typeInfo, hi, his, Sem.run_bind, Sem.run_pure, run_program, Result.andThen_ok, Sem.run_ite]
            rw [if_neg (by simpa using h24), if_pos h0]
            simp only [Sem.run_pure, Result.andThen_ok, hfill0]
            simp [newRow]
          · have h24 : ¬ (16777216 < len * c.L.sz e) := by omega
            simp only [Instr.buildSlice, run_underlying hu, sizeOf, typeInfo, zeroValue, hi, hz, his, Sem.run_bind, Sem.run_pure, run_program, Result.andThen_ok, Sem.run_ite]
            rw [if_neg (by simpa using h24), if_neg h0]
            simp only [Sem.run_pure, Result.andThen_ok, hfill']
            simp [newRow]
        · exact ho.elim
      · exact ho.elim
  · exact ho.elim
end proofs
end Go.Ax
