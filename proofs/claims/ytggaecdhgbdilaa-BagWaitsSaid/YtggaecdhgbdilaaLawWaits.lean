/- Blocks that wait in buckets: nothing is lost, nothing comes twice, nothing too soon. No condition. -/
import Derived.Test.YtggaecdhgbdilaaVc13
set_option linter.unusedVariables false
set_option linter.unusedSimpArgs false
set_option maxRecDepth 100000
namespace Go.Proofs.Ytggaecdhgbdilaa
open Go Go.Ax

theorem wait_mem {n i : Nat} {x : Wk} {tags : List Int} (h : WaitI n i x tags) {b : Int} (hb : b ∈ x.hold ∨ b ∈ x.l0 ∨ b ∈ x.l1 ∨ b ∈ x.l2) : 0 ≤ b ∧ b < i ∧ tags.getD b.toNat 0 ≠ 0 := by
  have hc := h.cnt b
  by_cases hp : 0 ≤ b ∧ b < i ∧ tags.getD b.toNat 0 ≠ 0
  · exact hp
  · rw [if_neg hp] at hc
    rcases hb with hb | hb | hb | hb
    · have := List.count_pos_iff.2 hb; omega
    · have := List.count_pos_iff.2 hb; omega
    · have := List.count_pos_iff.2 hb; omega
    · have := List.count_pos_iff.2 hb; omega
theorem wait_with {n i : Nat} {x : Wk} {tags : List Int} (h : WaitI n i x tags) {E : Int} (hE : x.e ≤ E) : WaitI n i (Wk.with3 x E) tags := by
  have h1 := h.low
  have a0 := h.le0
  have a1 := h.le1
  have a2 := h.le2
  exact ⟨h.le, h.most, h.rack, h.read, h.len, by show 2 ≤ E; omega, h.pos, h.sum, h.cnt, fun b hb => by have := h.old b hb; show _ ≤ E; omega, h.m0, h.m1, h.m2, by show x.t0 ≤ E + 1; omega, by show x.t1 ≤ E + 1; omega, by show x.t2 ≤ E + 1; omega, h.in0, h.in1, h.in2⟩
theorem tag_in {x : Wk} (h1 : 2 ≤ x.e) (h2 : x.e ≤ 1000) : tagW x = x.e + 1 := by unfold tagW; exact IntWalk.u64_in _ (by omega)
theorem idx_in {x : Wk} (h1 : 2 ≤ x.e) (h2 : x.e ≤ 1000) : idxW x = (x.e + 1) % 3 := by
  unfold idxW; rw [tag_in h1 h2]; exact Int.tmod_eq_emod_of_nonneg (by omega)
theorem wait_now {n i : Nat} {x : Wk} {tags : List Int} (h : WaitI n i x tags) (he : x.e ≤ 1000) : WaitI n i (nowX x) tags ∧ ∃ l, (nowX x).hold = x.hold ++ l := by
  have h1 := h.low
  have ht := tag_in h1 he
  have hi := idx_in h1 he
  have hs := h.sum
  have hs' : sumW (nowX x) ≤ i := by rw [sum_now]; exact hs
  have a0 := h.le0
  have a1 := h.le1
  have a2 := h.le2
  rcases idx_cases x with hx | hx | hx
  · rw [nowX_0 hx] at hs' ⊢
    split
    · exact ⟨h, [], by simp⟩
    · rename_i hne
      rw [if_neg hne] at hs'
      rw [hx] at hi
      refine ⟨⟨h.le, h.most, h.rack, h.read, h.len, h1, h.pos, hs', fun b => ?_, fun b hb => ?_, .inl rfl, h.m1, h.m2, by dsimp only; omega, a1, a2, fun b hb => by simp at hb, h.in1, h.in2⟩, x.l0, rfl⟩
      · have := h.cnt b
        dsimp only
        rw [List.count_append, List.count_nil, ← this]; omega
      · dsimp only at hb ⊢
        rcases List.mem_append.1 hb with hb | hb
        · exact h.old b hb
        · rw [h.in0 b hb]
          rcases h.m0 with hm | hm
          · rw [hm] at hb; simp at hb
          · omega
  · rw [nowX_1 hx] at hs' ⊢
    split
    · exact ⟨h, [], by simp⟩
    · rename_i hne
      rw [if_neg hne] at hs'
      rw [hx] at hi
      refine ⟨⟨h.le, h.most, h.rack, h.read, h.len, h1, h.pos, hs', fun b => ?_, fun b hb => ?_, h.m0, .inl rfl, h.m2, a0, by dsimp only; omega, a2, h.in0, fun b hb => by simp at hb, h.in2⟩, x.l1, rfl⟩
      · have := h.cnt b
        dsimp only
        rw [List.count_append, List.count_nil, ← this]; omega
      · dsimp only at hb ⊢
        rcases List.mem_append.1 hb with hb | hb
        · exact h.old b hb
        · rw [h.in1 b hb]
          rcases h.m1 with hm | hm
          · rw [hm] at hb; simp at hb
          · omega
  · rw [nowX_2 hx] at hs' ⊢
    split
    · exact ⟨h, [], by simp⟩
    · rename_i hne
      rw [if_neg hne] at hs'
      rw [hx] at hi
      refine ⟨⟨h.le, h.most, h.rack, h.read, h.len, h1, h.pos, hs', fun b => ?_, fun b hb => ?_, h.m0, h.m1, .inl rfl, a0, a1, by dsimp only; omega, h.in0, h.in1, fun b hb => by simp at hb⟩, x.l2, rfl⟩
      · have := h.cnt b
        dsimp only
        rw [List.count_append, List.count_nil, ← this]; omega
      · dsimp only at hb ⊢
        rcases List.mem_append.1 hb with hb | hb
        · exact h.old b hb
        · rw [h.in2 b hb]
          rcases h.m2 with hm | hm
          · rw [hm] at hb; simp at hb
          · omega
theorem getD_set (l : List Int) (i k : Nat) (v : Int) (hi : i < l.length) : (l.set i v).getD k 0 = if k = i then v else l.getD k 0 := by
  simp only [List.getD_eq_getElem?_getD, List.getElem?_set]
  by_cases h : i = k
  · subst h; simp [hi]
  · rw [if_neg h, if_neg (fun e => h e.symm)]
theorem wait_no {n i : Nat} {x : Wk} {tags : List Int} (h : WaitI n i x tags) (hi : i < n) : WaitI n (i + 1) x (tags.set i 0) := by
  have hl := h.len
  have hg := fun k => getD_set tags i k 0 (by omega)
  have keep : ∀ b : Int, 0 ≤ b → b < i → (tags.set i 0).getD b.toNat 0 = tags.getD b.toNat 0 := fun b h1 h2 => by rw [hg, if_neg (by omega)]
  have hm := fun {b : Int} (hb : b ∈ x.hold ∨ b ∈ x.l0 ∨ b ∈ x.l1 ∨ b ∈ x.l2) => wait_mem h hb
  refine ⟨by omega, h.most, h.rack, h.read, by rw [List.length_set]; exact hl, h.low, fun k => ?_, by have := h.sum; omega, fun b => ?_, fun b hb => ?_, h.m0, h.m1, h.m2, h.le0, h.le1, h.le2, fun b hb => ?_, fun b hb => ?_, fun b hb => ?_⟩
  · rw [hg]; split
    · exact Int.le_refl _
    · exact h.pos k
  · rw [h.cnt b]
    by_cases hp : 0 ≤ b ∧ b < i
    · have : (0 ≤ b ∧ b < (i : Int) ∧ tags.getD b.toNat 0 ≠ 0) ↔ (0 ≤ b ∧ b < ((i + 1 : Nat) : Int) ∧ (tags.set i 0).getD b.toNat 0 ≠ 0) := by
        rw [keep b hp.1 hp.2]
        constructor
        · rintro ⟨_, _, q⟩; exact ⟨hp.1, by omega, q⟩
        · rintro ⟨_, _, q⟩; exact ⟨hp.1, hp.2, q⟩
      simp only [this]
    · rw [if_neg (fun q => hp ⟨q.1, q.2.1⟩), if_neg]
      rintro ⟨q1, q2, q3⟩
      have : b = i := by omega
      subst this
      rw [hg] at q3; simp at q3
  · obtain ⟨p1, p2, _⟩ := hm (.inl hb); rw [keep b p1 p2]; exact h.old b hb
  · obtain ⟨p1, p2, _⟩ := hm (.inr (.inl hb)); rw [keep b p1 p2]; exact h.in0 b hb
  · obtain ⟨p1, p2, _⟩ := hm (.inr (.inr (.inl hb))); rw [keep b p1 p2]; exact h.in1 b hb
  · obtain ⟨p1, p2, _⟩ := hm (.inr (.inr (.inr hb))); rw [keep b p1 p2]; exact h.in2 b hb
theorem wait_yes_core {n i : Nat} {x y : Wk} {tags : List Int} (h : WaitI n i x tags) (hi : i < n) (t : Int) (ht : t ≠ 0) (ht0 : 0 ≤ t) (hr : y.rack = x.rack) (hd : y.read = x.read) (he : y.e = x.e) (hh : y.hold = x.hold)
    (hs : sumW y ≤ sumW x + 1) (hc : ∀ b : Int, y.l0.count b + y.l1.count b + y.l2.count b = x.l0.count b + x.l1.count b + x.l2.count b + if b = (i : Int) then 1 else 0)
    (m0 : y.l0 = [] ∨ y.t0 % 3 = 0) (m1 : y.l1 = [] ∨ y.t1 % 3 = 1) (m2 : y.l2 = [] ∨ y.t2 % 3 = 2) (e0 : y.t0 ≤ y.e + 1) (e1 : y.t1 ≤ y.e + 1) (e2 : y.t2 ≤ y.e + 1)
    (i0 : ∀ b ∈ y.l0, b = (i : Int) ∧ y.t0 = t ∨ b ∈ x.l0 ∧ y.t0 = x.t0) (i1 : ∀ b ∈ y.l1, b = (i : Int) ∧ y.t1 = t ∨ b ∈ x.l1 ∧ y.t1 = x.t1) (i2 : ∀ b ∈ y.l2, b = (i : Int) ∧ y.t2 = t ∨ b ∈ x.l2 ∧ y.t2 = x.t2) : WaitI n (i + 1) y (tags.set i t) := by
  have hl := h.len
  have hg := fun k => getD_set tags i k t (by omega)
  have keep : ∀ b : Int, 0 ≤ b → b < i → (tags.set i t).getD b.toNat 0 = tags.getD b.toNat 0 := fun b h1 h2 => by rw [hg, if_neg (by omega)]
  have hm := fun {b : Int} (hb : b ∈ x.hold ∨ b ∈ x.l0 ∨ b ∈ x.l1 ∨ b ∈ x.l2) => wait_mem h hb
  have own : (tags.set i t).getD (i : Int).toNat 0 = t := by rw [hg, if_pos (by omega)]
  refine ⟨by omega, h.most, hr.trans h.rack, hd.trans h.read, by rw [List.length_set]; exact hl, by rw [he]; exact h.low, fun k => ?_, by have := h.sum; omega, fun b => ?_, fun b hb => ?_, m0, m1, m2, e0, e1, e2, fun b hb => ?_, fun b hb => ?_, fun b hb => ?_⟩
  · rw [hg]; split
    · exact ht0
    · exact h.pos k
  · have c1 := h.cnt b
    have c2 := hc b
    rw [hh]
    by_cases hb : b = (i : Int)
    · subst hb
      rw [if_neg (by omega)] at c1
      rw [if_pos rfl] at c2
      rw [if_pos ⟨by omega, by omega, by rw [own]; exact ht⟩]
      omega
    · rw [if_neg hb] at c2
      by_cases hp : 0 ≤ b ∧ b < i
      · have : (0 ≤ b ∧ b < (i : Int) ∧ tags.getD b.toNat 0 ≠ 0) ↔ (0 ≤ b ∧ b < ((i + 1 : Nat) : Int) ∧ (tags.set i t).getD b.toNat 0 ≠ 0) := by
          rw [keep b hp.1 hp.2]
          constructor
          · rintro ⟨_, _, q⟩; exact ⟨hp.1, by omega, q⟩
          · rintro ⟨_, _, q⟩; exact ⟨hp.1, hp.2, q⟩
        simp only [this] at c1
        omega
      · rw [if_neg (fun q => hp ⟨q.1, q.2.1⟩)] at c1
        rw [if_neg (fun q => by omega)]
        omega
  · rw [hh] at hb
    obtain ⟨p1, p2, _⟩ := hm (.inl hb); rw [keep b p1 p2, he]; exact h.old b hb
  · rcases i0 b hb with ⟨rfl, q⟩ | ⟨hb, q⟩
    · rw [own, q]
    · obtain ⟨p1, p2, _⟩ := hm (.inr (.inl hb)); rw [keep b p1 p2, q]; exact h.in0 b hb
  · rcases i1 b hb with ⟨rfl, q⟩ | ⟨hb, q⟩
    · rw [own, q]
    · obtain ⟨p1, p2, _⟩ := hm (.inr (.inr (.inl hb))); rw [keep b p1 p2, q]; exact h.in1 b hb
  · rcases i2 b hb with ⟨rfl, q⟩ | ⟨hb, q⟩
    · rw [own, q]
    · obtain ⟨p1, p2, _⟩ := hm (.inr (.inr (.inr hb))); rw [keep b p1 p2, q]; exact h.in2 b hb
theorem count_one (b : Int) (i : Int) : [i].count b = if b = i then 1 else 0 := by
  rw [List.count_cons, List.count_nil, Nat.zero_add]
  by_cases h : b = i
  · subst h; simp
  · rw [if_neg h, if_neg]; simpa using fun e => h e.symm
/-- A block put into a bucket that is ready. -/
theorem wait_yes {n i : Nat} {x : Wk} {tags : List Int} (h : WaitI n i x tags) (hi : i < n) (he : x.e ≤ 1000) (hT : bagT x (idxW x) = tagW x) :
    WaitI n (i + 1) (setBag x (idxW x) (tagW x) (bagL x (idxW x) ++ [(i : Int)])) (tags.set i (x.e + 1)) := by
  have h1 := h.low
  have ht := tag_in h1 he
  have hx := idx_in h1 he
  have hs := sum_add x (idxW x) (tagW x) (i : Int)
  obtain ⟨r1, r2, r3⟩ := rr_set x (idxW x) (tagW x) (bagL x (idxW x) ++ [(i : Int)])
  have r4 : (setBag x (idxW x) (tagW x) (bagL x (idxW x) ++ [(i : Int)])).hold = x.hold := by
    unfold setBag; split
    · rfl
    · split <;> rfl
  refine wait_yes_core h hi (x.e + 1) (by omega) (by omega) r1 r2 r3 r4 (by omega) ?_ ?_ ?_ ?_ ?_ ?_ ?_ ?_ ?_ ?_
  all_goals rcases idx_cases x with hj | hj | hj
  all_goals rw [hj] at hT hx
  all_goals rw [hj]
  all_goals simp only [setBag, bagL, bagT, if_true, show ¬ (1 : Int) = 0 by decide, show ¬ (2 : Int) = 0 by decide, show ¬ (2 : Int) = 1 by decide, if_false, ht] at hT ⊢
  all_goals first
    | exact h.m0
    | exact h.m1
    | exact h.m2
    | exact h.le0
    | exact h.le1
    | exact h.le2
    | exact Int.le_refl _
    | exact .inr (by omega)
    | (intro b; rw [List.count_append, count_one]; omega)
    | (intro b hb; exact .inr ⟨hb, trivial⟩)
    | (intro b hb; exact .inr ⟨hb, rfl⟩)
    | (intro b hb; exact (List.mem_append.1 hb).elim (fun hb => .inr ⟨hb, hT.symm⟩) (fun hb => .inl ⟨by simpa using hb, trivial⟩))
/-- All that a put does. -/
theorem wait_put {n i : Nat} {x : Wk} {tags : List Int} {c : Cfg} {E : Int} (h : WaitInv n i x tags) (hi : i < n) (h1 : x.e ≤ E) (h2 : E ≤ x.e + 5) :
    ∃ t, t = (if (bagPut (c, Wk.with3 x E, (i : Int))).2 = true then E + 1 else 0) ∧ WaitInv n (i + 1) (bagPut (c, Wk.with3 x E, (i : Int))).1 (tags.set i t) ∧ (∃ l, (bagPut (c, Wk.with3 x E, (i : Int))).1.hold = x.hold ++ l) ∧
      ∀ b ∈ (bagPut (c, Wk.with3 x E, (i : Int))).1.hold, 0 ≤ b ∧ b < i ∧ (tags.set i t).getD b.toNat 0 ≠ 0 ∧ 0 ≤ (tags.set i t).getD b.toNat 0 ∧ (tags.set i t).getD b.toNat 0 + 2 ≤ E := by
  have hm := h.core.most
  have hh := h.high
  have hl := h.core.len
  have lo := h.core.low
  have he : (Wk.with3 x E).e ≤ 1000 := by show E ≤ 1000; omega
  obtain ⟨w1, l, w2⟩ := wait_now (wait_with h.core h1) he
  have ee : (nowX (Wk.with3 x E)).e = E := nowX_e _
  have hol : ∀ (t : Int) (b : Int), b ∈ (nowX (Wk.with3 x E)).hold → 0 ≤ b ∧ b < i ∧ (tags.set i t).getD b.toNat 0 ≠ 0 ∧ 0 ≤ (tags.set i t).getD b.toNat 0 ∧ (tags.set i t).getD b.toNat 0 + 2 ≤ E := fun t b hb => by
    obtain ⟨p1, p2, p3⟩ := wait_mem w1 (.inl hb)
    have p4 := w1.old b hb
    have p5 := w1.pos b.toNat
    rw [ee] at p4
    rw [getD_set tags i b.toNat t (by omega), if_neg (by omega)]
    exact ⟨p1, p2, p3, p5, p4⟩
  unfold bagPut
  dsimp only
  by_cases hc : ((bagL (nowX (Wk.with3 x E)) (idxW (Wk.with3 x E))).length : Int) < c.a
  · rw [if_pos hc]
    dsimp only
    have hT : bagT (nowX (Wk.with3 x E)) (idxW (nowX (Wk.with3 x E))) = tagW (nowX (Wk.with3 x E)) := by
      rw [idx_now, tag_now]
      rcases idx_cases (Wk.with3 x E) with hj | hj | hj
      · rw [hj]; exact now_t0 hj
      · rw [hj]; exact now_t1 hj
      · rw [hj]; exact now_t2 hj
    have w3 := wait_yes w1 hi (by rw [ee]; omega) hT
    rw [idx_now, tag_now, ee] at w3
    have r4 : (setBag (nowX (Wk.with3 x E)) (idxW (Wk.with3 x E)) (tagW (Wk.with3 x E)) (bagL (nowX (Wk.with3 x E)) (idxW (Wk.with3 x E)) ++ [(i : Int)])).hold = (nowX (Wk.with3 x E)).hold := by
      unfold setBag; split
      · rfl
      · split <;> rfl
    obtain ⟨_, _, r3⟩ := rr_set (nowX (Wk.with3 x E)) (idxW (Wk.with3 x E)) (tagW (Wk.with3 x E)) (bagL (nowX (Wk.with3 x E)) (idxW (Wk.with3 x E)) ++ [(i : Int)])
    refine ⟨E + 1, by rw [if_pos rfl], ⟨w3, by rw [r3, ee]; omega⟩, ⟨l, by rw [r4, w2]; rfl⟩, fun b hb => hol _ b (by rwa [r4] at hb)⟩
  · rw [if_neg hc]
    dsimp only
    refine ⟨0, by simp, ⟨wait_no w1 hi, by rw [ee]; omega⟩, ⟨l, w2⟩, fun b hb => hol _ b hb⟩
theorem wait_easy {n i : Nat} {x : Wk} {tags : List Int} (h : WaitI n i x tags) : Easy x := by
  have := h.sum
  have := h.most
  have := h.le
  exact ⟨by rw [h.rack]; simp [small], by rw [h.read]; simp [small], by show sumW x ≤ _; omega⟩
/-- In the end all is ripe. -/
theorem wait_ripe {n : Nat} {x : Wk} {tags : List Int} (h : WaitInv n n x tags) : ripeW (x, IntKind.wrap .u64 (x.e + 3)) = { x with t0 := 0, l0 := [], t1 := 0, l1 := [], t2 := 0, l2 := [], hold := x.hold ++ x.l0 ++ x.l1 ++ x.l2 } := by
  have hm := h.core.most
  have hh := h.high
  have lo := h.core.low
  have e1 : IntKind.wrap .u64 (x.e + 3) = x.e + 3 := IntWalk.u64_in _ (by omega)
  have e2 : IntKind.wrap .u64 (x.e + 3 - 2) = x.e + 1 := by rw [IntWalk.u64_in _ (by omega)]; omega
  have a0 := h.core.le0
  have a1 := h.core.le1
  have a2 := h.core.le2
  have r : ∀ t, t ≤ x.e + 1 → isRipe t (x.e + 3) = true := fun t ht => by
    unfold isRipe; rw [e2, decide_eq_true ht, decide_eq_true (by omega)]; rfl
  rw [e1]
  simp [ripeW, ripe1, bagT, bagL, setBag, holdW, r _ a0, r _ a1, r _ a2]
theorem seen_nil (n : Nat) : List.replicate n false = seenL n [] := by
  apply List.ext_getElem
  · simp [seenL]
  · intro k h1 h2; simp [seenL]
theorem seen_len (n : Nat) (l : List Int) : (seenL n l).length = n := by simp [seenL]
theorem seen_get {n : Nat} (l : List Int) {b : Int} (h0 : 0 ≤ b) (h1 : b < n) : (seenL n l).getD b.toNat false = l.contains b := by
  rw [List.getD_eq_getElem?_getD, List.getElem?_eq_getElem (by rw [seen_len]; omega)]
  simp only [seenL, List.getElem_map, List.getElem_range, Option.getD_some]
  rw [show ((b.toNat : Nat) : Int) = b by omega]
theorem seen_set {n : Nat} (l : List Int) {b : Int} (h0 : 0 ≤ b) (h1 : b < n) : (seenL n l).set b.toNat true = seenL n (l ++ [b]) := by
  apply List.ext_getElem
  · simp [seenL]
  · intro k h2 h3
    rw [List.getElem_set]
    simp only [seenL, List.getElem_map, List.getElem_range]
    by_cases hk : b.toNat = k
    · rw [if_pos hk]
      have : (k : Int) = b := by omega
      rw [this]; simp
    · rw [if_neg hk]
      have : ¬ (k : Int) = b := by omega
      simp [this]
/-- A state that is zero but for its epoch. -/
def wkE : Wk := ⟨0, ⟨0, 0, 0, 0, false, 0, 0⟩, false, 2, [], 0, [], 0, [], 0, [], [], 0, 0, 0, 0, 0, 0, 0, 0, 0, 0, 0, [], 0, 0, false⟩
theorem waits_told (c : Cfg) (l : List Int) : aexecF cnd cx ΓB (specWaits l.length) 200 Try.f6 (codeOf Try.f6) (aWaitsL.enc (c, l)) [] (fun y _ => y = .bool true) := by
  have e0 := vc_lwaits (fun y => y = .bool true) c l
  refine Eq.mpr e0 ?_; clear e0
  refine ⟨trivial, cnd_intro (fun _ => rfl) (fun hl => ?_)⟩
  have hl : l.length ≤ 40 := by have := of_decide_eq_false hl; omega
  have rep : List.getD (List.replicate l.length (0 : Int)) = fun k d => if k < l.length then 0 else d := by
    funext k d
    rw [List.getD_eq_getElem?_getD, List.getElem?_replicate]
    split <;> rfl
  refine ⟨⟨by omega, rfl, by omega, by omega⟩, ⟨(0, wkE, List.replicate l.length 0), ?_, ⟨rfl, rfl, trivial⟩, by repeat (first | exact trivial | exact rfl | apply And.intro), trivial⟩, ?_⟩
  · refine ⟨⟨Nat.zero_le _, hl, rfl, rfl, by simp, show (2 : Int) ≤ 2 by decide, fun k => ?_, show 0 ≤ 0 from Nat.le_refl _, fun b => ?_, fun b hb => by simp [wkE] at hb, .inl rfl, .inl rfl, .inl rfl, show (0 : Int) ≤ 2 + 1 by decide, show (0 : Int) ≤ 2 + 1 by decide, show (0 : Int) ≤ 2 + 1 by decide, fun b hb => by simp [wkE] at hb, fun b hb => by simp [wkE] at hb, fun b hb => by simp [wkE] at hb⟩, show (2 : Int) ≤ 2 + 5 * ((0 : Nat) : Int) by decide⟩
    · rw [rep]; dsimp only; split <;> exact Int.le_refl _
    · rw [if_neg (by omega)]; rfl
  rintro ⟨i, X, TG⟩ h
  dsimp only at h ⊢
  refine cnd_intro (fun hi => ?_) (fun hi => ?_)
  · have hi := natlt hi
    have hin : i < l.length := by omega
    have hw0 : 0 ≤ IntKind.wrap IntKind.u64 (List.getD l (Int.toNat (i : Int)) 0) := by rw [IntKind.wrap_u64]; omega
    have hd0 := Int.tmod_nonneg 6 hw0
    have hd1 := Int.tmod_lt_of_pos (IntKind.wrap IntKind.u64 (List.getD l (Int.toNat (i : Int)) 0)) (show (0 : Int) < 6 by decide)
    have hh := h.high
    have lo := h.core.low
    have hlen := h.core.len
    have hE : IntKind.wrap IntKind.u64 (X.e + Int.tmod (IntKind.wrap IntKind.u64 (List.getD l (Int.toNat (i : Int)) 0)) 6) = X.e + Int.tmod (IntKind.wrap IntKind.u64 (List.getD l (Int.toNat (i : Int)) 0)) 6 := IntWalk.u64_in _ (by omega)
    rw [hE]
    clear hE hw0
    generalize Int.tmod (IntKind.wrap IntKind.u64 (List.getD l (Int.toNat (i : Int)) 0)) 6 = d at *
    have hex := wait_easy (wait_with h.core (E := X.e + d) (by omega))
    obtain ⟨t, ht, hw, ⟨l', hl'⟩, hb⟩ := wait_put (c := c) (E := X.e + d) h hin (by omega) (by omega)
    refine ⟨⟨by omega, hi⟩, by decide, ⟨by omega, hi⟩, by decide, hex, ?_⟩
    have wE : IntKind.wrap IntKind.u64 (X.e + d + 1) = X.e + d + 1 := IntWalk.u64_in _ (by omega)
    rw [wE, Int.toNat_natCast]
    have sY := hw.core.sum
    have lY : (bagPut (c, Wk.with3 X (X.e + d), (i : Int))).1.hold.length ≤ l.length := by unfold sumW at sY; omega
    have gY : X.hold.length ≤ (bagPut (c, Wk.with3 X (X.e + d), (i : Int))).1.hold.length := by rw [hl', List.length_append]; omega
    generalize bagPut (c, Wk.with3 X (X.e + d), (i : Int)) = Y at *
    have lT := hw.core.len
    refine cnd_intro (fun hok => ?_) (fun hok => ?_)
    · have ht : t = 0 := by rw [ht, if_neg]; simpa using hok
      subst ht
      refine ⟨⟨by omega, by omega⟩, by omega, cnd_intro (fun _ => ?_) (fun h => by rw [decide_eq_false (by omega)] at h; simp at h)⟩
      refine cnd_intro (fun h => absurd (of_decide_eq_true h) (by omega)) (fun _ => ?_)
      refine ⟨⟨X.hold.length, gY, ⟨rfl, trivial⟩, by repeat (first | exact trivial | exact rfl | apply And.intro), trivial⟩, ?_⟩
      intro k hk
      refine cnd_intro (fun hk2 => ?_) (fun _ => ?_)
      · have hk2 := natlt hk2
        have hkl : k < Y.1.hold.length := by omega
        have hmem : List.getD Y.1.hold (Int.toNat (k : Int)) 0 ∈ Y.1.hold := by rw [get_int hkl]; exact List.getElem_mem _
        obtain ⟨p1, p2, p3, p4, p5⟩ := hb _ hmem
        generalize List.getD Y.1.hold (Int.toNat (k : Int)) 0 = B at *
        have pb : B < ((TG.set i 0).length : Int) := by rw [lT]; omega
        have p6 : IntKind.wrap IntKind.u64 ((TG.set i 0).getD B.toNat 0 + 2) = (TG.set i 0).getD B.toNat 0 + 2 := IntWalk.u64_in _ (by omega)
        refine ⟨⟨by omega, hk2⟩, cnd_intro (fun _ => ?_) (fun h => by rw [decide_eq_false (by omega)] at h; simp at h)⟩
        refine cnd_intro (fun _ => ?_) (fun h => by rw [decide_eq_false (by omega)] at h; simp at h)
        refine ⟨⟨p1, pb⟩, by omega, cnd_intro (fun _ => ?_) (fun h => ?_)⟩
        · refine ⟨⟨p1, pb⟩, by omega, cnd_intro (fun h => ?_) (fun _ => ?_)⟩
          · rw [p6] at h; exact absurd (of_decide_eq_true h) (by omega)
          · exact ⟨k + 1, by omega, by omega, ⟨next_int hk2 (by omega), trivial⟩, by repeat (first | exact trivial | exact rfl | apply And.intro), trivial⟩
        · have h2 : ((TG.set i 0).getD B.toNat 0 == 0) = true := by simpa using h
          exact absurd (by simpa using h2) p3
      · exact ⟨(i + 1, Y.1, TG.set i 0), hw, by dsimp only; omega, ⟨rfl, next_int hi (by omega), trivial⟩, by repeat (first | exact trivial | exact rfl | apply And.intro), trivial⟩
    · have ht : t = X.e + d + 1 := by rw [ht, if_pos]; simpa using hok
      subst ht
      refine ⟨⟨by omega, by omega⟩, by omega, cnd_intro (fun _ => ?_) (fun h => by rw [decide_eq_false (by omega)] at h; simp at h)⟩
      refine cnd_intro (fun h => absurd (of_decide_eq_true h) (by omega)) (fun _ => ?_)
      refine ⟨⟨X.hold.length, gY, ⟨rfl, trivial⟩, by repeat (first | exact trivial | exact rfl | apply And.intro), trivial⟩, ?_⟩
      intro k hk
      refine cnd_intro (fun hk2 => ?_) (fun _ => ?_)
      · have hk2 := natlt hk2
        have hkl : k < Y.1.hold.length := by omega
        have hmem : List.getD Y.1.hold (Int.toNat (k : Int)) 0 ∈ Y.1.hold := by rw [get_int hkl]; exact List.getElem_mem _
        obtain ⟨p1, p2, p3, p4, p5⟩ := hb _ hmem
        generalize List.getD Y.1.hold (Int.toNat (k : Int)) 0 = B at *
        have pb : B < ((TG.set i (X.e + d + 1)).length : Int) := by rw [lT]; omega
        have p6 : IntKind.wrap IntKind.u64 ((TG.set i (X.e + d + 1)).getD B.toNat 0 + 2) = (TG.set i (X.e + d + 1)).getD B.toNat 0 + 2 := IntWalk.u64_in _ (by omega)
        refine ⟨⟨by omega, hk2⟩, cnd_intro (fun _ => ?_) (fun h => by rw [decide_eq_false (by omega)] at h; simp at h)⟩
        refine cnd_intro (fun _ => ?_) (fun h => by rw [decide_eq_false (by omega)] at h; simp at h)
        refine ⟨⟨p1, pb⟩, by omega, cnd_intro (fun _ => ?_) (fun h => ?_)⟩
        · refine ⟨⟨p1, pb⟩, by omega, cnd_intro (fun h => ?_) (fun _ => ?_)⟩
          · rw [p6] at h; exact absurd (of_decide_eq_true h) (by omega)
          · exact ⟨k + 1, by omega, by omega, ⟨next_int hk2 (by omega), trivial⟩, by repeat (first | exact trivial | exact rfl | apply And.intro), trivial⟩
        · have h2 : ((TG.set i (X.e + d + 1)).getD B.toNat 0 == 0) = true := by simpa using h
          exact absurd (by simpa using h2) p3
      · exact ⟨(i + 1, Y.1, TG.set i (X.e + d + 1)), hw, by dsimp only; omega, ⟨rfl, next_int hi (by omega), trivial⟩, by repeat (first | exact trivial | exact rfl | apply And.intro), trivial⟩
  · have hi := natge hi
    have hin : i = l.length := by have := h.core.le; omega
    subst hin
    have hx := wait_easy h.core
    have hr := wait_ripe h
    have hc := h.core.cnt
    have hlen := h.core.len
    have hle := h.core.sum
    rw [hr]
    have hy : Easy { X with t0 := 0, l0 := [], t1 := 0, l1 := [], t2 := 0, l2 := [], hold := X.hold ++ X.l0 ++ X.l1 ++ X.l2 } := ⟨hx.rack, hx.read, by have := hx.sum; simp only [List.length_append, List.length_nil]; omega⟩
    have hcy : countW { X with t0 := 0, l0 := [], t1 := 0, l1 := [], t2 := 0, l2 := [], hold := X.hold ++ X.l0 ++ X.l1 ++ X.l2 } = 0 := rfl
    rw [hcy]
    dsimp only
    have hcnt : ∀ b : Int, (X.hold ++ X.l0 ++ X.l1 ++ X.l2).count b = if 0 ≤ b ∧ b < l.length ∧ TG.getD b.toNat 0 ≠ 0 then 1 else 0 := fun b => by
      rw [List.count_append, List.count_append, List.count_append]; exact hc b
    have hsz : (X.hold ++ X.l0 ++ X.l1 ++ X.l2).length ≤ l.length := by
      simp only [List.length_append]; unfold sumW at hle; omega
    generalize X.hold ++ X.l0 ++ X.l1 ++ X.l2 = H at *
    have hin : ∀ b ∈ H, 0 ≤ b ∧ b < l.length ∧ TG.getD b.toNat 0 ≠ 0 := fun b hb => by
      have := hcnt b
      have := List.count_pos_iff.2 hb
      by_cases hp : 0 ≤ b ∧ b < l.length ∧ TG.getD b.toNat 0 ≠ 0
      · exact hp
      · rw [if_neg hp] at *; omega
    refine ⟨hx, hy, cnd_intro (fun h => by simp at h) (fun _ => ?_)⟩
    refine ⟨⟨by omega, rfl, by omega, by omega⟩, ⟨(0, List.replicate l.length false), ⟨Nat.zero_le _, by rw [List.take_zero]; exact seen_nil _⟩, ⟨rfl, trivial⟩, by repeat (first | exact trivial | exact rfl | apply And.intro), trivial⟩, ?_⟩
    rintro ⟨k, sn⟩ ⟨hk, hs⟩
    dsimp only at hk hs ⊢
    refine cnd_intro (fun hk2 => ?_) (fun hk2 => ?_)
    · have hk2 := natlt hk2
      have hkl : k < H.length := by omega
      have hB : List.getD H (Int.toNat (k : Int)) 0 = H[k] := get_int hkl
      have hmem : List.getD H (Int.toNat (k : Int)) 0 ∈ H := by rw [hB]; exact List.getElem_mem _
      have ht : H.take (k + 1) = H.take k ++ [List.getD H (Int.toNat (k : Int)) 0] := by rw [hB]; exact List.take_succ_eq_append_getElem hkl
      obtain ⟨p1, p2, p3⟩ := hin _ hmem
      have hone := hcnt (List.getD H (Int.toNat (k : Int)) 0)
      rw [if_pos ⟨p1, p2, p3⟩] at hone
      have hnew : List.getD H (Int.toNat (k : Int)) 0 ∉ H.take k := fun hm => by
        have h1 := List.count_pos_iff.2 hm
        have h2 := congrArg (List.count (List.getD H (Int.toNat (k : Int)) 0)) (List.take_append_drop (k + 1) H)
        rw [List.count_append, ht, List.count_append, count_one, if_pos rfl, hone] at h2
        omega
      generalize List.getD H (Int.toNat (k : Int)) 0 = B at *
      have hsl : sn.length = l.length := by rw [hs]; exact seen_len _ _
      have hsn : List.getD sn B.toNat false = false := by rw [hs, seen_get _ p1 p2]; simpa using hnew
      refine ⟨⟨by omega, hk2⟩, cnd_intro (fun _ => ?_) (fun h => by rw [decide_eq_false (by omega)] at h; simp at h)⟩
      refine cnd_intro (fun _ => ?_) (fun h => by rw [decide_eq_false (by omega)] at h; simp at h)
      refine ⟨⟨p1, by omega⟩, by omega, cnd_intro (fun _ => ?_) (fun h => ?_)⟩
      · refine ⟨⟨p1, by omega⟩, by omega, cnd_intro (fun h => absurd (by simpa using h) p3) (fun _ => ?_)⟩
        refine ⟨⟨p1, by omega⟩, by omega, (k + 1, sn.set B.toNat true), ⟨by dsimp only; omega, by dsimp only; rw [hs, seen_set _ p1 p2, ht]⟩, by dsimp only; omega, ⟨next_int hk2 (by omega), trivial⟩, by repeat (first | exact trivial | exact rfl | apply And.intro), trivial⟩
      · have h2 : (List.getD sn B.toNat false == false) = false := h
        rw [hsn] at h2; cases h2
    · have hk2 := natge hk2
      have hsl : sn.length = l.length := by rw [hs]; exact seen_len _ _
      rw [List.take_of_length_le (by omega)] at hs
      refine ⟨⟨0, Nat.zero_le _, ⟨rfl, trivial⟩, by repeat (first | exact trivial | exact rfl | apply And.intro), trivial⟩, ?_⟩
      intro m hm
      refine cnd_intro (fun hm2 => ?_) (fun _ => rfl)
      have hm2 := natlt hm2
      have hml : m < l.length := by omega
      refine ⟨⟨by omega, by omega⟩, by omega, ⟨by omega, by omega⟩, by omega, cnd_intro (fun h => ?_) (fun _ => ?_)⟩
      · have h1 : List.getD sn (Int.toNat (m : Int)) false = H.contains (m : Int) := by rw [hs]; exact seen_get _ (by omega) (by omega)
        have h2 : H.contains (m : Int) = (List.getD TG (Int.toNat (m : Int)) 0 != 0) := by
          have hq := hcnt (m : Int)
          by_cases hp : TG.getD (Int.toNat (m : Int)) 0 = 0
          · rw [if_neg (fun q => q.2.2 hp)] at hq
            have : (m : Int) ∉ H := fun hmem => by have := List.count_pos_iff.2 hmem; omega
            rw [hp]; simpa using this
          · rw [if_pos ⟨by omega, by omega, hp⟩] at hq
            have : (m : Int) ∈ H := List.count_pos_iff.1 (by omega)
            have e1 : H.contains (m : Int) = true := by simpa using this
            rw [e1]; symm; simpa using hp
        have h3 : (!List.getD sn (Int.toNat (m : Int)) false == (List.getD TG (Int.toNat (m : Int)) 0 != 0)) = true := h
        rw [h1, h2] at h3; simp at h3
      · exact ⟨m + 1, by omega, by omega, ⟨next_int hm2 (by omega), trivial⟩, by repeat (first | exact trivial | exact rfl | apply And.intro), trivial⟩
end Go.Proofs.Ytggaecdhgbdilaa
