/- The reference of layer 2 agrees with the program's plan, in plain Lean: where each word lies in the list of all words. No condition. -/
import Derived.Test.YtaikpkhclnkkaaaTells2
import Derived.Test.YtaikpkhclnkkaaaSizes
set_option linter.unusedVariables false
set_option linter.unusedSimpArgs false
namespace Go.Proofs.Ytaikpkhclnkkaaa
open Go Go.Ax

theorem findS_nil (s : Spot) (i : Nat) : findS [] s i = -1 := rfl
theorem findS_cons (t : Spot) (l : List Spot) (s : Spot) (i : Nat) : findS (t :: l) s i = if t.k = s.k ∧ t.a = s.a ∧ t.b = s.b then (i : Int) else findS l s (i + 1) := by
  show (match (t.k == s.k && (t.a == s.a && (t.b == s.b && true))) with | true => (i : Int) | false => findS l s (i + 1)) = _
  by_cases h : t.k = s.k ∧ t.a = s.a ∧ t.b = s.b
  · rw [if_pos h]; obtain ⟨h1, h2, h3⟩ := h; simp [h1, h2, h3]
  · rw [if_neg h]
    have : (t.k == s.k && (t.a == s.a && (t.b == s.b && true))) = false := by
      cases hb : (t.k == s.k && (t.a == s.a && (t.b == s.b && true))) with
      | false => rfl
      | true => simp at hb; exact absurd hb h
    rw [this]
theorem findS_sp (k a b : Nat) (l : List Spot) (s : Spot) (i : Nat) : findS (sp k a b :: l) s i = if (k : Int) = s.k ∧ (a : Int) = s.a ∧ (b : Int) = s.b then (i : Int) else findS l s (i + 1) := findS_cons _ _ _ _
theorem findS_ge (l : List Spot) (s : Spot) (i : Nat) : findS l s i = -1 ∨ (i : Int) ≤ findS l s i := by
  induction l generalizing i with
  | nil => exact .inl rfl
  | cons t l ih =>
    rw [findS_cons]
    split
    · exact .inr (by omega)
    · rcases ih (i + 1) with h | h
      · exact .inl h
      · exact .inr (by omega)
theorem findS_append (l m : List Spot) (s : Spot) (i : Nat) : findS (l ++ m) s i = if findS l s i = -1 then findS m s (i + l.length) else findS l s i := by
  induction l generalizing i with
  | nil => simp [findS_nil]
  | cons t l ih =>
    rw [List.cons_append, findS_cons, findS_cons, ih]
    by_cases h : t.k = s.k ∧ t.a = s.a ∧ t.b = s.b
    · simp only [if_pos h]; rw [if_neg (by omega)]
    · simp only [if_neg h, List.length_cons]; rw [show i + 1 + l.length = i + (l.length + 1) from by omega]
theorem row_succ (k n : Nat) : row k (n + 1) = row k n ++ [sp k n 0] := by simp [row, List.range_succ]
theorem ent_succ (n : Nat) : ent (n + 1) = ent n ++ [sp 3 n 0, sp 4 n 0] := by simp [ent, List.range_succ]
theorem blkW_succ (i o : Nat) : blkW i (o + 1) = blkW i o ++ [sp 6 i o] := by simp [blkW, List.range_succ]
theorem blk_succ (o n : Nat) : blk o (n + 1) = blk o n ++ (sp 5 n 0 :: blkW n o) := by simp [blk, List.range_succ]
theorem length_row (k n : Nat) : (row k n).length = n := by simp [row]
theorem length_blkW (i o : Nat) : (blkW i o).length = o := by simp [blkW]
theorem length_ent (n : Nat) : (ent n).length = 2 * n := by
  induction n with
  | zero => rfl
  | succ n ih => rw [ent_succ, List.length_append, ih]; simp; omega
theorem length_blk (o n : Nat) : (blk o n).length = n * (1 + o) := by
  induction n with
  | zero => simp [blk]
  | succ n ih => rw [blk_succ, List.length_append, ih, List.length_cons, length_blkW, Nat.succ_mul]; omega

theorem findS_row (k n : Nat) (s : Spot) (i : Nat) : findS (row k n) s i = if s.k = k ∧ s.b = 0 ∧ 0 ≤ s.a ∧ s.a < n then i + s.a else -1 := by
  induction n with
  | zero => rw [if_neg (by omega)]; rfl
  | succ n ih =>
    rw [row_succ, findS_append, ih, length_row, findS_sp, findS_nil]
    by_cases h1 : s.k = k ∧ s.b = 0 ∧ 0 ≤ s.a ∧ s.a < n
    · rw [if_pos h1, if_neg (by omega), if_pos (by omega)]
    · rw [if_neg h1, if_pos rfl]
      by_cases h2 : s.k = k ∧ s.b = 0 ∧ s.a = n
      · rw [if_pos (by omega), if_pos (by omega)]; omega
      · rw [if_neg (by omega), if_neg (by omega)]
theorem findS_ent (n : Nat) (s : Spot) (i : Nat) : findS (ent n) s i = if (s.k = 3 ∨ s.k = 4) ∧ s.b = 0 ∧ 0 ≤ s.a ∧ s.a < n then i + 2 * s.a + (s.k - 3) else -1 := by
  induction n with
  | zero => rw [if_neg (by omega)]; rfl
  | succ n ih =>
    rw [ent_succ, findS_append, ih, length_ent, findS_sp, findS_sp, findS_nil]
    by_cases h1 : (s.k = 3 ∨ s.k = 4) ∧ s.b = 0 ∧ 0 ≤ s.a ∧ s.a < n
    · rw [if_pos h1, if_neg (by omega), if_pos (by omega)]
    · rw [if_neg h1, if_pos rfl]
      by_cases h2 : s.k = 3 ∧ s.b = 0 ∧ s.a = n
      · rw [if_pos (by omega), if_pos (by omega)]; omega
      · rw [if_neg (by omega)]
        by_cases h3 : s.k = 4 ∧ s.b = 0 ∧ s.a = n
        · rw [if_pos (by omega), if_pos (by omega)]; omega
        · rw [if_neg (by omega), if_neg (by omega)]
theorem findS_blkW (j o : Nat) (s : Spot) (i : Nat) : findS (blkW j o) s i = if s.k = 6 ∧ s.a = j ∧ 0 ≤ s.b ∧ s.b < o then i + s.b else -1 := by
  induction o with
  | zero => rw [if_neg (by omega)]; rfl
  | succ n ih =>
    rw [blkW_succ, findS_append, ih, length_blkW, findS_sp, findS_nil]
    by_cases h1 : s.k = 6 ∧ s.a = j ∧ 0 ≤ s.b ∧ s.b < n
    · rw [if_pos h1, if_neg (by omega), if_pos (by omega)]
    · rw [if_neg h1, if_pos rfl]
      by_cases h2 : s.k = 6 ∧ s.a = j ∧ s.b = n
      · rw [if_pos (by omega), if_pos (by omega)]; omega
      · rw [if_neg (by omega), if_neg (by omega)]
theorem findS_blk (o n : Nat) (s : Spot) (i : Nat) : findS (blk o n) s i =
    if 0 ≤ s.a ∧ s.a < n ∧ s.k = 5 ∧ s.b = 0 then i + s.a * (1 + o) else if 0 ≤ s.a ∧ s.a < n ∧ s.k = 6 ∧ 0 ≤ s.b ∧ s.b < o then i + s.a * (1 + o) + 1 + s.b else -1 := by
  induction n with
  | zero => rw [if_neg (by omega), if_neg (by omega)]; rfl
  | succ n ih =>
    rw [blk_succ, findS_append, ih, length_blk, findS_sp, findS_blkW]
    have hpos : 0 ≤ s.a → 0 ≤ s.a * (1 + (o : Int)) := fun h => Int.mul_nonneg h (by omega)
    have n5 : (¬ (0 ≤ s.a ∧ s.a < n) → ¬ s.a = n → ¬ (0 ≤ s.a ∧ s.a < ((n + 1 : Nat) : Int))) := by omega
    by_cases h1 : 0 ≤ s.a ∧ s.a < n ∧ s.k = 5 ∧ s.b = 0
    · have := hpos h1.1
      have r : 0 ≤ s.a ∧ s.a < ((n + 1 : Nat) : Int) ∧ s.k = 5 ∧ s.b = 0 := by omega
      rw [if_pos h1, if_pos r, if_neg (by omega)]
    · rw [if_neg h1]
      by_cases h2 : 0 ≤ s.a ∧ s.a < n ∧ s.k = 6 ∧ 0 ≤ s.b ∧ s.b < o
      · have := hpos h2.1
        have r1 : ¬ (0 ≤ s.a ∧ s.a < ((n + 1 : Nat) : Int) ∧ s.k = 5 ∧ s.b = 0) := by omega
        have r2 : 0 ≤ s.a ∧ s.a < ((n + 1 : Nat) : Int) ∧ s.k = 6 ∧ 0 ≤ s.b ∧ s.b < o := by omega
        rw [if_pos h2, if_neg r1, if_pos r2, if_neg (by omega)]
      · rw [if_neg h2, if_pos rfl]
        by_cases h3 : s.k = 5 ∧ s.b = 0 ∧ s.a = n
        · obtain ⟨h4, h5, h6⟩ := h3
          have r : 0 ≤ s.a ∧ s.a < ((n + 1 : Nat) : Int) ∧ s.k = 5 ∧ s.b = 0 := by omega
          have l : ((5 : Nat) : Int) = s.k ∧ (n : Int) = s.a ∧ ((0 : Nat) : Int) = s.b := by omega
          rw [if_pos l, if_pos r, h6]
          simp
        · have l : ¬ (((5 : Nat) : Int) = s.k ∧ (n : Int) = s.a ∧ ((0 : Nat) : Int) = s.b) := by omega
          have r1 : ¬ (0 ≤ s.a ∧ s.a < ((n + 1 : Nat) : Int) ∧ s.k = 5 ∧ s.b = 0) := by omega
          rw [if_neg l, if_neg r1]
          by_cases h4 : s.k = 6 ∧ s.a = n ∧ 0 ≤ s.b ∧ s.b < o
          · have r2 : 0 ≤ s.a ∧ s.a < ((n + 1 : Nat) : Int) ∧ s.k = 6 ∧ 0 ≤ s.b ∧ s.b < o := by omega
            rw [if_pos h4, if_pos r2, h4.2.1]
            simp
          · have r2 : ¬ (0 ≤ s.a ∧ s.a < ((n + 1 : Nat) : Int) ∧ s.k = 6 ∧ 0 ≤ s.b ∧ s.b < o) := by omega
            rw [if_neg h4, if_neg r2]

theorem length_allV {x : Cfg} {T P : Int} (h : Sizes x T P) : ((allV x).length : Int) = sizeV x := by
  have := h.w; have := h.s; have := h.e; have := h.tb; have := h.pb; have := h.o
  have hP : (((x.s * x.b).toNat * (1 + x.o.toNat) : Nat) : Int) = P := by
    rw [Int.natCast_mul, h.p, h.t]
    congr 1 <;> (have := h.t; omega)
  rw [h.size]
  simp only [allV, all4, all3, all2, all1, List.length_append, length_row, length_ent, length_blk, head3, List.length_cons, List.length_nil]
  omega

/-- Where a word lies in the list of all words. -/
theorem find_all {x : Cfg} {T P : Int} (h : Sizes x T P) (s : Spot) (hk : s.k ≠ 0) : findS (allV x) s 0 =
    if s.k = 1 ∧ s.b = 0 ∧ 0 ≤ s.a ∧ s.a < x.w then 3 + s.a else
    if s.k = 2 ∧ s.b = 0 ∧ 0 ≤ s.a ∧ s.a < x.s then 3 + x.w + s.a else
    if (s.k = 3 ∨ s.k = 4) ∧ s.b = 0 ∧ 0 ≤ s.a ∧ s.a < x.e then 3 + x.w + x.s + 2 * s.a + (s.k - 3) else
    if 0 ≤ s.a ∧ s.a < T ∧ s.k = 5 ∧ s.b = 0 then 3 + x.w + x.s + 2 * x.e + s.a * (1 + x.o) else
    if 0 ≤ s.a ∧ s.a < T ∧ s.k = 6 ∧ 0 ≤ s.b ∧ s.b < x.o then 3 + x.w + x.s + 2 * x.e + s.a * (1 + x.o) + 1 + s.b else -1 := by
  have := h.w; have := h.s; have := h.e; have := h.tb; have := h.pb; have := h.o
  have hT := h.t
  have h3 : findS head3 s 0 = -1 := by
    simp only [head3, findS_cons, findS_nil]
    rw [if_neg (by omega), if_neg (by omega), if_neg (by omega)]
  have e1 : ((x.w.toNat : Nat) : Int) = x.w := by omega
  have e2 : ((x.s.toNat : Nat) : Int) = x.s := by omega
  have e3 : ((x.e.toNat : Nat) : Int) = x.e := by omega
  have e4 : ((x.o.toNat : Nat) : Int) = x.o := by omega
  have e5 : (((x.s * x.b).toNat : Nat) : Int) = T := by omega
  have hl : head3.length = 3 := rfl
  simp only [allV, all4, all3, all2, all1, findS_append, h3, if_true, findS_row, findS_ent, findS_blk, List.length_append, length_row, length_ent, hl, e1, e2, e3, e4, e5]
  have hpos : 0 ≤ s.a → 0 ≤ s.a * (1 + x.o) := fun h => Int.mul_nonneg h (by omega)
  by_cases c1 : s.k = ((1 : Nat) : Int) ∧ s.b = 0 ∧ 0 ≤ s.a ∧ s.a < x.w
  · have q1 : s.k = 1 ∧ s.b = 0 ∧ 0 ≤ s.a ∧ s.a < x.w := by omega
    have q : ¬ (((0 + 3 : Nat) : Int) + s.a = -1) := by omega
    simp only [if_pos c1, if_pos q1, if_neg q]; omega
  have q1 : ¬ (s.k = 1 ∧ s.b = 0 ∧ 0 ≤ s.a ∧ s.a < x.w) := by omega
  simp only [if_neg c1, if_neg q1, if_true]
  by_cases c2 : s.k = ((2 : Nat) : Int) ∧ s.b = 0 ∧ 0 ≤ s.a ∧ s.a < x.s
  · have q2 : s.k = 2 ∧ s.b = 0 ∧ 0 ≤ s.a ∧ s.a < x.s := by omega
    have q : ¬ (((0 + (3 + x.w.toNat) : Nat) : Int) + s.a = -1) := by omega
    simp only [if_pos c2, if_pos q2, if_neg q]; omega
  have q2 : ¬ (s.k = 2 ∧ s.b = 0 ∧ 0 ≤ s.a ∧ s.a < x.s) := by omega
  simp only [if_neg c2, if_neg q2, if_true]
  by_cases c3 : (s.k = 3 ∨ s.k = 4) ∧ s.b = 0 ∧ 0 ≤ s.a ∧ s.a < x.e
  · have q : ¬ (((0 + (3 + x.w.toNat + x.s.toNat) : Nat) : Int) + 2 * s.a + (s.k - 3) = -1) := by omega
    simp only [if_pos c3, if_neg q]; omega
  simp only [if_neg c3, if_true]
  by_cases c4 : 0 ≤ s.a ∧ s.a < T ∧ s.k = 5 ∧ s.b = 0
  · simp only [if_pos c4]; omega
  simp only [if_neg c4]
  by_cases c5 : 0 ≤ s.a ∧ s.a < T ∧ s.k = 6 ∧ 0 ≤ s.b ∧ s.b < x.o
  · simp only [if_pos c5]; omega
  simp only [if_neg c5]

theorem at_bad {x : Cfg} (h : checkV x ≠ 0) (s : Spot) : atR x s = -1 := by unfold atR; rw [if_neg h]
theorem atV_bad {x : Cfg} (h : checkV x ≠ 0) (f i m k : Int) : atV x f i m k = -1 := by unfold atV; rw [if_pos (.inr (.inr h))]
theorem atV_out {x : Cfg} {f i m k : Int} (h : ¬ (0 ≤ i ∧ i < m)) : atV x f i m k = -1 := by unfold atV; rw [if_pos (by omega)]

theorem at_announce (x : Cfg) (a : Int) : announceV x a = atR x ⟨1, a, 0⟩ := by
  by_cases hv : checkV x = 0
  · have Z := sizes_of hv
    unfold atR; rw [if_pos hv, find_all Z _ (by simp)]
    simp only [true_and, show ¬ (1 : Int) = 2 from by omega, show ¬ ((1 : Int) = 3 ∨ (1 : Int) = 4) from by omega, show ¬ (1 : Int) = 5 from by omega, show ¬ (1 : Int) = 6 from by omega, false_and, and_false, if_false]
    by_cases h : 0 ≤ a ∧ a < x.w
    · rw [if_pos h, Z.announce h]
    · rw [if_neg h]; exact atV_out h
  · rw [at_bad hv]; exact atV_bad hv _ _ _ _
theorem at_slab (x : Cfg) (a : Int) : slabV x a = atR x ⟨2, a, 0⟩ := by
  by_cases hv : checkV x = 0
  · have Z := sizes_of hv
    unfold atR; rw [if_pos hv, find_all Z _ (by simp)]
    simp only [true_and, show ¬ (2 : Int) = 1 from by omega, show ¬ ((2 : Int) = 3 ∨ (2 : Int) = 4) from by omega, show ¬ (2 : Int) = 5 from by omega, show ¬ (2 : Int) = 6 from by omega, false_and, and_false, if_false]
    by_cases h : 0 ≤ a ∧ a < x.s
    · rw [if_pos h, Z.slab h]
    · rw [if_neg h]; exact atV_out h
  · rw [at_bad hv]; exact atV_bad hv _ _ _ _
theorem at_entry (x : Cfg) (a : Int) : entryV x a = atR x ⟨3, a, 0⟩ := by
  by_cases hv : checkV x = 0
  · have Z := sizes_of hv
    unfold atR; rw [if_pos hv, find_all Z _ (by simp)]
    simp only [true_and, true_or, show ¬ (3 : Int) = 1 from by omega, show ¬ (3 : Int) = 2 from by omega, show ¬ (3 : Int) = 5 from by omega, show ¬ (3 : Int) = 6 from by omega, false_and, and_false, if_false]
    by_cases h : 0 ≤ a ∧ a < x.e
    · rw [if_pos h, Z.entry h]; omega
    · rw [if_neg h]; exact atV_out h
  · rw [at_bad hv]; exact atV_bad hv _ _ _ _
theorem at_entryLink (x : Cfg) (a : Int) : entryLinkV x a = atR x ⟨4, a, 0⟩ := by
  by_cases hv : checkV x = 0
  · have Z := sizes_of hv
    unfold atR; rw [if_pos hv, find_all Z _ (by simp)]
    simp only [true_and, or_true, show ¬ (4 : Int) = 1 from by omega, show ¬ (4 : Int) = 2 from by omega, show ¬ (4 : Int) = 5 from by omega, show ¬ (4 : Int) = 6 from by omega, false_and, and_false, if_false]
    by_cases h : 0 ≤ a ∧ a < x.e
    · rw [if_pos h, Z.entryLink h]; omega
    · rw [if_neg h]; exact atV_out h
  · rw [at_bad hv]; exact atV_bad hv _ _ _ _
theorem at_blockLink (x : Cfg) (a : Int) : blockLinkV x a = atR x ⟨5, a, 0⟩ := by
  by_cases hv : checkV x = 0
  · have Z := sizes_of hv
    unfold atR; rw [if_pos hv, find_all Z _ (by simp)]
    simp only [true_and, and_true, show ¬ (5 : Int) = 1 from by omega, show ¬ (5 : Int) = 2 from by omega, show ¬ ((5 : Int) = 3 ∨ (5 : Int) = 4) from by omega, show ¬ (5 : Int) = 6 from by omega, false_and, and_false, if_false]
    by_cases h : 0 ≤ a ∧ a < x.s * x.b
    · rw [if_pos h, Z.blockLink h]
    · rw [if_neg h]; unfold blockLinkV; rw [Z.total]; exact atV_out h
  · rw [at_bad hv]; exact atV_bad hv _ _ _ _
theorem at_word (x : Cfg) (a b : Int) : wordV x a b = atR x ⟨6, a, b⟩ := by
  by_cases hv : checkV x = 0
  · have Z := sizes_of hv
    unfold atR; rw [if_pos hv, find_all Z _ (by simp)]
    simp only [true_and, show ¬ (6 : Int) = 1 from by omega, show ¬ (6 : Int) = 2 from by omega, show ¬ ((6 : Int) = 3 ∨ (6 : Int) = 4) from by omega, show ¬ (6 : Int) = 5 from by omega, false_and, and_false, if_false]
    by_cases h : 0 ≤ a ∧ a < x.s * x.b
    · by_cases h' : 0 ≤ b ∧ b < x.o
      · rw [if_pos ⟨h.1, h.2, h'.1, h'.2⟩, Z.word h h']
      · rw [if_neg (fun q => h' ⟨q.2.2.1, q.2.2.2⟩)]; unfold wordV; rw [if_neg (fun q => h' q.2)]
    · have e : blockLinkV x a = -1 := by unfold blockLinkV; rw [Z.total]; exact atV_out h
      rw [if_neg (fun q => h ⟨q.1, q.2.1⟩)]; unfold wordV; rw [e, if_neg (fun q => absurd q.1 (by omega))]
  · have e : blockLinkV x a = -1 := atV_bad hv _ _ _ _
    rw [at_bad hv]; unfold wordV; rw [e, if_neg (fun q => absurd q.1 (by omega))]

theorem homeF_eq {x : Cfg} {T P : Int} (Z : Sizes x T P) (i : Int) (h0 : 0 ≤ i) : ∀ (n j : Nat), (j : Int) + n = x.s → (j : Int) * x.b ≤ i → homeF x.b i n j = if i < T then i / x.b else -1 := by
  have hb := Z.b
  have hs := Z.s
  intro n
  induction n with
  | zero =>
    intro j hj hji
    have e : (j : Int) = x.s := by omega
    rw [e, ← Z.t] at hji
    rw [if_neg (by omega)]; rfl
  | succ n ih =>
    intro j hj hji
    have hj8 : (j : Int) + 1 ≤ 8 := by omega
    have hm0 : 0 ≤ ((j : Int) + 1) * x.b := Int.mul_nonneg (by omega) (by omega)
    have hm1 : ((j : Int) + 1) * x.b ≤ 8 * 16 := Int.mul_le_mul hj8 (by omega) (by omega) (by omega)
    have e1 : wr (wr ((j : Int) + 1) * x.b) = ((j : Int) + 1) * x.b := by rw [wr_in (n := (j : Int) + 1) (by omega), wr_in (by omega)]
    unfold homeF
    rw [e1]
    by_cases h : i < ((j : Int) + 1) * x.b
    · rw [if_pos h]
      have hT : i < T := by
        have : ((j : Int) + 1) * x.b ≤ x.s * x.b := Int.mul_le_mul_of_nonneg_right (by omega) (by omega)
        have := Z.t
        omega
      rw [if_pos hT]
      have h1 : i / x.b < (j : Int) + 1 := Int.ediv_lt_of_lt_mul (by omega) h
      have h2 : (j : Int) ≤ i / x.b := Int.le_ediv_of_mul_le (by omega) hji
      omega
    · rw [if_neg h]
      exact ih (j + 1) (by omega) (by rw [show (((j + 1 : Nat)) : Int) = (j : Int) + 1 from by omega]; omega)
theorem home_eq (x : Cfg) (i : Int) : homeV x i = homeR x i := by
  by_cases hv : checkV x = 0
  · have Z := sizes_of hv
    have hb := Z.b
    have hs := Z.s
    unfold homeR
    by_cases h0 : i < 0
    · rw [if_pos (.inr h0)]
      unfold homeV
      have : blockLinkV x i = -1 := by unfold blockLinkV; exact atV_out (by omega)
      rw [if_pos (by omega)]
    · rw [if_neg (by omega)]
      rw [homeF_eq Z i (by omega) _ _ (by omega) (by omega)]
      unfold homeV
      by_cases hi : i < x.s * x.b
      · have hbl := Z.blockLink ⟨by omega, hi⟩
        have hst := Z.step ⟨by omega, hi⟩
        have := Z.w; have := Z.s; have := Z.e
        have hq : 0 ≤ i / x.b ∧ i / x.b ≤ i := ⟨Int.ediv_nonneg (by omega) (by omega), Int.ediv_le_self _ (by omega)⟩
        have := Z.tb
        rw [if_neg (by omega), if_pos hi, Int.tdiv_eq_ediv_of_nonneg (by omega), wr_in (by omega)]
      · have : blockLinkV x i = -1 := by unfold blockLinkV; rw [Z.total]; exact atV_out (by omega)
        rw [if_pos (by omega), if_neg hi]
  · unfold homeR homeV
    have : blockLinkV x i = -1 := atV_bad hv _ _ _ _
    rw [if_pos (by omega), if_pos (.inl hv)]
end Go.Proofs.Ytaikpkhclnkkaaa
