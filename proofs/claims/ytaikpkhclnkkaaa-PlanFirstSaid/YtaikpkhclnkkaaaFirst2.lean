/- The first contents of the memory: the program's list is the reference's. Plain Lean. No condition. -/
import Derived.Test.YtaikpkhclnkkaaaFirst
import Derived.Test.YtaikpkhclnkkaaaTells3
set_option linter.unusedVariables false
set_option linter.unusedSimpArgs false
namespace Go.Proofs.Ytaikpkhclnkkaaa
open Go Go.Ax

theorem rep_add (n m : Nat) : List.replicate (n + m) (0 : Int) = List.replicate n 0 ++ List.replicate m 0 := List.replicate_append_replicate.symm
theorem wordR_sp (x : Cfg) (k a b : Nat) : wordR x (sp k a b) = if (k : Int) = 4 ∧ (a : Int) < x.e - 1 then (a : Int) + 2 else if (k : Int) = 3 then 1048576 else if (k : Int) = 0 ∧ (a : Int) = 2 then 1 else if (k : Int) = 0 ∧ (a : Int) = 0 then 2 else 0 := rfl
def lk (e : Int) (j : Nat) : Int := if (j : Int) + 1 < e then (j : Int) + 2 else 0
def entW (e : Int) (n : Nat) : List Int := (List.range n).flatMap fun j => [1048576, lk e j]
theorem entW_succ (e : Int) (n : Nat) : entW e (n + 1) = entW e n ++ [1048576, lk e n] := by simp [entW, List.range_succ]
theorem length_entW (e : Int) (n : Nat) : (entW e n).length = 2 * n := by
  induction n with
  | zero => rfl
  | succ n ih => rw [entW_succ, List.length_append, ih]; simp; omega
def pre3 (x : Cfg) : List Int := [2, 0, 1] ++ List.replicate (x.w.toNat + x.s.toNat) 0
theorem length_pre3 (x : Cfg) : (pre3 x).length = 3 + (x.w.toNat + x.s.toNat) := by simp [pre3]; omega
theorem set_at {α : Type} (a : List α) (y v : α) (r : List α) (n : Nat) (h : n = a.length) : (a ++ y :: r).set n v = a ++ v :: r := by
  subst h; simp
theorem set_at1 {α : Type} (a : List α) (y z v : α) (r : List α) (n : Nat) (h : n = a.length + 1) : (a ++ y :: z :: r).set n v = a ++ y :: v :: r := by
  subst h
  rw [List.set_append_right _ _ (by omega), Nat.add_sub_cancel_left]
  rfl
theorem firstL_eq {x : Cfg} {T P : Int} (Z : Sizes x T P) : ∀ i : Nat, (i : Int) ≤ x.e → firstL x i = pre3 x ++ entW x.e i ++ List.replicate ((sizeV x).toNat - (3 + (x.w.toNat + x.s.toNat)) - 2 * i) 0 := by
  have hs := Z.size
  have b1 := Z.w
  have b2 := Z.s
  have b3 := Z.e
  have b6 := Z.pb
  have b5 := Z.tb
  intro i
  induction i with
  | zero =>
    intro _
    obtain ⟨m, hm⟩ : ∃ m, (sizeV x).toNat = (x.w.toNat + x.s.toNat + m) + 1 + 1 + 1 := ⟨(sizeV x).toNat - 3 - (x.w.toNat + x.s.toNat), by omega⟩
    have e1 : (sizeV x).toNat - (3 + (x.w.toNat + x.s.toNat)) - 2 * 0 = m := by omega
    rw [e1]
    simp only [firstL, hm, List.replicate_succ, List.set_cons_zero, List.set_cons_succ, pre3, entW, List.range_zero, List.flatMap_nil, List.append_nil, List.cons_append, List.nil_append, rep_add]
  | succ i ih =>
    intro hi
    have ih := ih (by omega)
    obtain ⟨m, hm⟩ : ∃ m, (sizeV x).toNat - (3 + (x.w.toNat + x.s.toNat)) - 2 * i = m + 1 + 1 := ⟨(sizeV x).toNat - (3 + (x.w.toNat + x.s.toNat)) - 2 * i - 2, by omega⟩
    have e1 : (sizeV x).toNat - (3 + (x.w.toNat + x.s.toNat)) - 2 * (i + 1) = m := by omega
    have he := Z.entry (i := i) ⟨by omega, by omega⟩
    have hl := Z.entryLink (i := i) ⟨by omega, by omega⟩
    have hlen : (pre3 x ++ entW x.e i).length = 3 + (x.w.toNat + x.s.toNat) + 2 * i := by rw [List.length_append, length_pre3, length_entW]
    rw [hm, List.replicate_succ, List.replicate_succ] at ih
    show stepF x (firstL x i) i = _
    rw [ih, e1, entW_succ]
    unfold stepF
    rw [set_at _ _ _ _ _ (by rw [hlen]; omega)]
    by_cases h : (i : Int) + 1 < x.e
    · rw [if_pos h, set_at1 _ _ _ _ _ _ (by rw [hlen]; omega)]
      simp only [lk, if_pos h, List.append_assoc]; rfl
    · rw [if_neg h]
      simp only [lk, if_neg h, List.append_assoc]; rfl

theorem map_row (x : Cfg) (k n : Nat) (hk : k = 1 ∨ k = 2) : (row k n).map (wordR x) = List.replicate n 0 := by
  induction n with
  | zero => rfl
  | succ n ih =>
    rw [row_succ, List.map_append, ih, List.replicate_succ']
    congr 1
    have : wordR x (sp k n 0) = 0 := by
      rw [wordR_sp]
      rw [if_neg (by omega), if_neg (by omega), if_neg (by omega), if_neg (by omega)]
    simp [this]
theorem map_ent (x : Cfg) (n : Nat) : (ent n).map (wordR x) = entW x.e n := by
  induction n with
  | zero => rfl
  | succ n ih =>
    rw [ent_succ, List.map_append, ih, entW_succ]
    congr 1
    have h3 : wordR x (sp 3 n 0) = 1048576 := by
      rw [wordR_sp]
      rw [if_neg (by omega), if_pos (by omega)]
    have h4 : wordR x (sp 4 n 0) = lk x.e n := by
      rw [wordR_sp]; unfold lk
      by_cases h : (n : Int) + 1 < x.e
      · rw [if_pos (by omega), if_pos h]
      · rw [if_neg (by omega), if_neg (by omega), if_neg (by omega), if_neg (by omega), if_neg h]
    simp [h3, h4]
theorem map_zero (x : Cfg) (l : List Spot) (h : ∀ s ∈ l, s.k = 5 ∨ s.k = 6) : l.map (wordR x) = List.replicate l.length 0 := by
  induction l with
  | nil => rfl
  | cons s l ih =>
    have hs := h s (by simp)
    have : wordR x s = 0 := by
      unfold wordR
      rw [if_neg (by omega), if_neg (by omega), if_neg (by omega), if_neg (by omega)]
    rw [List.map_cons, this, ih (fun t ht => h t (by simp [ht])), List.length_cons, List.replicate_succ]
theorem mem_blk {o n : Nat} {s : Spot} (h : s ∈ blk o n) : s.k = 5 ∨ s.k = 6 := by
  simp only [blk, List.mem_flatMap, List.mem_cons, blkW, List.mem_map] at h
  obtain ⟨i, _, h⟩ := h
  rcases h with rfl | ⟨j, _, rfl⟩
  · exact .inl rfl
  · exact .inr rfl
theorem mem_all4 {x : Cfg} {T P : Int} (Z : Sizes x T P) {s : Spot} (h : s ∈ allV x) : s.k = 4 → 0 ≤ s.a ∧ s.a ≤ 32 := by
  have b3 := Z.e
  intro hk
  simp only [allV, all4, all3, all2, all1, List.mem_append] at h
  rcases h with (((h | h) | h) | h) | h
  · simp only [head3, List.mem_cons, List.not_mem_nil, or_false] at h
    rcases h with rfl | rfl | rfl <;> cases hk
  · simp only [row, List.mem_map] at h
    obtain ⟨i, _, rfl⟩ := h
    simp [sp] at hk
  · simp only [row, List.mem_map] at h
    obtain ⟨i, _, rfl⟩ := h
    simp [sp] at hk
  · simp only [ent, List.mem_flatMap, List.mem_range, List.mem_cons, List.not_mem_nil, or_false] at h
    obtain ⟨i, hi, h⟩ := h
    rcases h with rfl | rfl <;> (simp only [sp]; omega)
  · have := mem_blk h; omega
theorem first_eq (x : Cfg) : firstV x = firstR x := by
  unfold firstV firstR
  by_cases hv : checkV x = 0
  · rw [if_pos hv, if_pos hv]
    have Z := sizes_of hv
    have hs := Z.size
    have b1 := Z.w
    have b2 := Z.s
    have b3 := Z.e
    have b6 := Z.pb
    have b5 := Z.tb
    have hl := length_allV Z
    rw [firstL_eq Z _ (by omega)]
    have hh : head3.map (wordR x) = [2, 0, 1] := by
      simp only [head3, List.map_cons, List.map_nil, wordR]
      rfl
    have hb : (blk x.o.toNat (x.s * x.b).toNat).map (wordR x) = List.replicate ((sizeV x).toNat - (3 + (x.w.toNat + x.s.toNat)) - 2 * x.e.toNat) 0 := by
      rw [map_zero x _ (fun s hs => mem_blk hs)]
      congr 1
      have : (allV x).length = 3 + x.w.toNat + x.s.toNat + 2 * x.e.toNat + (blk x.o.toNat (x.s * x.b).toNat).length := by
        simp only [allV, all4, all3, all2, all1, List.length_append, length_row, length_ent]; rfl
      omega
    simp only [allV, all4, all3, all2, all1, List.map_append, hh, map_row x 1 _ (.inl rfl), map_row x 2 _ (.inr rfl), map_ent, hb, pre3, List.append_assoc]
    rw [rep_add, List.append_assoc]
  · rw [if_neg hv, if_neg hv]
theorem same_self (l : List Int) : sameS l l = true := by
  induction l with
  | nil => rfl
  | cons a l ih => simp [sameS, ih]
theorem length_firstV (x : Cfg) : (firstV x).length ≤ 1000 := by
  unfold firstV
  by_cases hv : checkV x = 0
  · rw [if_pos hv]
    have Z := sizes_of hv
    have hs := Z.size
    have b1 := Z.w
    have b2 := Z.s
    have b3 := Z.e
    have b6 := Z.pb
    have b5 := Z.tb
    rw [firstL_eq Z _ (by omega)]
    simp only [List.length_append, length_pre3, length_entW, List.length_replicate]
    omega
  · rw [if_neg hv]; simp
theorem length_firstL {x : Cfg} {T P : Int} (Z : Sizes x T P) (i : Nat) (h : (i : Int) ≤ x.e) : ((firstL x i).length : Int) = sizeV x := by
  have hs := Z.size
  have b1 := Z.w
  have b2 := Z.s
  have b3 := Z.e
  have b6 := Z.pb
  have b5 := Z.tb
  rw [firstL_eq Z _ h]
  simp only [List.length_append, length_pre3, length_entW, List.length_replicate]
  omega
end Go.Proofs.Ytaikpkhclnkkaaa
