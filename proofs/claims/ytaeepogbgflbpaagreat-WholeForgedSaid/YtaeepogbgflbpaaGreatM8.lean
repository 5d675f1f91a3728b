/- Parts of the proof, in one file: further parts. No condition. -/
import Derived.Test.YtaeepogbgflbpaaGreatM7

/- What holds of a new hall. No condition. -/
section
set_option linter.unusedVariables false
set_option linter.unusedSimpArgs false
set_option maxRecDepth 100000
namespace Go.Proofs.YtaeepogbgflbpaaGreat
open Go Go.Ax

theorem entW_at (e : Int) (n j : Nat) (hj : j < n) : (entW e n).getD (2 * j) 0 = 1048576 ∧ (entW e n).getD (2 * j + 1) 0 = lk e j := by
  induction n with
  | zero => omega
  | succ n ih =>
    rw [entW_succ]
    have hl := length_entW e n
    simp only [List.getD_eq_getElem?_getD]
    by_cases h : j < n
    · rw [List.getElem?_append_left (by omega), List.getElem?_append_left (by omega)]
      simp only [← List.getD_eq_getElem?_getD]
      exact ih h
    · obtain rfl : j = n := by omega
      rw [List.getElem?_append_right (by omega), List.getElem?_append_right (by omega), hl]
      have e1 : 2 * j - 2 * j = 0 := by omega
      have e2 : 2 * j + 1 - 2 * j = 1 := by omega
      rw [e1, e2]; exact ⟨rfl, rfl⟩
section
variable {x : Cfg}
theorem new_words (hv : checkV x = 0) : firstV x = pre3 x ++ entW x.e x.e.toNat ++ List.replicate ((sizeV x).toNat - (3 + (x.w.toNat + x.s.toNat)) - 2 * x.e.toNat) 0 := by
  have Z := sizes_of hv
  have := Z.e
  unfold firstV; rw [if_pos hv]; exact firstL_eq Z _ (by omega)
theorem new_whl (hv : checkV x = 0) : Whl (newM x) := by
  have Z := sizes_of hv
  have := Z.e
  refine ⟨hv, ?_⟩
  show ((firstV x).length : Int) = sizeV x
  unfold firstV; rw [if_pos hv]; exact length_firstL Z _ (by omega)
theorem new_head (hv : checkV x = 0) : Hw (newM x) = 1 := by
  show (firstV x).getD 2 0 = 1
  rw [new_words hv]; rfl
theorem new_ent (hv : checkV x = 0) {j : Nat} (hj : (j : Int) < x.e) : Ew (newM x) j = 1048576 ∧ Lw (newM x) j = lk x.e j := by
  have Z := sizes_of hv
  have hw := Z.w
  have hs := Z.s
  have W := new_whl hv
  have hin : 0 ≤ (j : Int) ∧ (j : Int) < (newM x).c.e := ⟨by omega, hj⟩
  obtain ⟨h1, h2⟩ := entW_at x.e x.e.toNat j (by omega)
  have hp := length_pre3 x
  have a1 : (entryV x (j : Int)).toNat = 3 + (x.w.toNat + x.s.toNat) + 2 * j := by
    have : entryV x (j : Int) = _ := W.ea hin
    have e1 : (newM x).c = x := rfl
    rw [e1] at this; omega
  have a2 : (entryLinkV x (j : Int)).toNat = 3 + (x.w.toNat + x.s.toNat) + (2 * j + 1) := by
    have : entryLinkV x (j : Int) = _ := W.la hin
    have e1 : (newM x).c = x := rfl
    rw [e1] at this; omega
  have hl := length_entW x.e x.e.toNat
  have get : ∀ k, k < 2 * x.e.toNat → (firstV x).getD (3 + (x.w.toNat + x.s.toNat) + k) 0 = (entW x.e x.e.toNat).getD k 0 := fun k hk => by
    rw [new_words hv]
    simp only [List.getD_eq_getElem?_getD]
    rw [List.getElem?_append_left (by rw [List.length_append]; omega), List.getElem?_append_right (by omega), hp]
    have : 3 + (x.w.toNat + x.s.toNat) + k - (3 + (x.w.toNat + x.s.toNat)) = k := by omega
    rw [this]
  constructor
  · show (firstV x).getD (entryV x (j : Int)).toNat 0 = _
    rw [a1, get _ (by omega)]; exact h1
  · show (firstV x).getD (entryLinkV x (j : Int)).toNat 0 = _
    rw [a2, get _ (by omega)]; exact h2
/-- All entries, from one on. -/
def stk (i k : Nat) : List Int := (List.range' i k).map fun n : Nat => (n : Int)
theorem stk_succ (i k : Nat) : stk i (k + 1) = (i : Int) :: stk (i + 1) k := by unfold stk; rw [List.range'_succ]; rfl
theorem new_chain (hv : checkV x = 0) (k : Nat) : ∀ i : Nat, ((i + k : Nat) : Int) = x.e → chain (newM x) (stk i k) (if (i : Int) < x.e then (i : Int) + 1 else 0) := by
  induction k with
  | zero =>
    intro i hi
    show (if (i : Int) < x.e then (i : Int) + 1 else 0) = 0
    rw [if_neg (by omega)]
  | succ k ih =>
    intro i hi
    have hlt : (i : Int) < x.e := by omega
    rw [stk_succ, if_pos hlt]
    refine ⟨rfl, ?_⟩
    rw [(new_ent hv hlt).2]
    have := ih (i + 1) (by omega)
    unfold lk
    have e1 : ((i + 1 : Nat) : Int) = (i : Int) + 1 := by omega
    have e2 : (i : Int) + 1 + 1 = (i : Int) + 2 := by omega
    rw [e1, e2] at this; exact this
theorem new_glob (hv : checkV x = 0) : Glob (newM x) (stk 0 x.e.toNat) 0 := by
  have Z := sizes_of hv
  have he := Z.e
  have hl := valid_of hv
  refine ⟨new_whl hv, ?_, ?_, ?_, fun e hm => ?_, fun e h0 h1 => ?_⟩
  · rw [new_head hv, hdV_eq]; omega
  · rw [new_head hv]
    have := new_chain hv x.e.toNat 0 (by omega)
    have e1 : lowW 1 = 1 := by rw [lowW_eq]; rfl
    rw [if_pos (by omega)] at this
    rw [e1]; exact this
  · unfold stk
    refine List.pairwise_map.2 ?_
    exact List.Pairwise.imp (fun h => by omega) (List.nodup_range' (s := 0) (n := x.e.toNat) (step := 1))
  · unfold stk at hm
    obtain ⟨j, hj, rfl⟩ := List.mem_map.1 hm
    have := List.mem_range'_1.1 hj
    have hlt : (j : Int) < x.e := by omega
    refine ⟨⟨by omega, hlt⟩, ?_⟩
    rw [(new_ent hv hlt).1]; rw [entS_eq]; rfl
  · obtain ⟨j, rfl⟩ : ∃ j : Nat, e = j := ⟨e.toNat, by omega⟩
    have hlt : (j : Int) < x.e := h1
    rw [(new_ent hv hlt).1, entG_eq]
    show (1 : Int) ≤ 1048576 / 1048576 ∧ (1048576 : Int) / 1048576 ≤ x.l
    omega
theorem newL_size (w : Int) (load : List (List OpD)) (i : Nat) : (newL w load i).length = w.toNat := by
  induction i with
  | zero => simp [newL]
  | succ i ih => unfold newL; rw [List.length_set, ih]
theorem newL_at (w : Int) (load : List (List OpD)) (i j : Nat) : ((newL w load i).getD j (K.dflt (tab 59))).x = wk0 ∧ ((newL w load i).getD j (K.dflt (tab 59))).next = 0 ∧ (((newL w load i).getD j (K.dflt (tab 59))).prog = [] ∨ ((newL w load i).getD j (K.dflt (tab 59))).prog ∈ load) := by
  induction i generalizing j with
  | zero =>
    have : (newL w load 0).getD j (K.dflt (tab 59)) = wr0 := by
      unfold newL
      rw [List.getD_eq_getElem?_getD, List.getElem?_replicate]
      split <;> rfl
    rw [this]; exact ⟨rfl, rfl, .inl rfl⟩
  | succ i ih =>
    unfold newL
    by_cases hi : i < (newL w load i).length
    · rw [getD_set _ _ _ _ _ hi]
      split
      · refine ⟨(ih i).1, (ih i).2.1, ?_⟩
        show load.getD i [] = [] ∨ load.getD i [] ∈ load
        rw [List.getD_eq_getElem?_getD]
        by_cases hl : i < load.length
        · rw [List.getElem?_eq_getElem hl]; exact .inr (List.getElem_mem hl)
        · rw [List.getElem?_eq_none (by omega)]; exact .inl rfl
      · exact ih j
    · rw [List.set_eq_of_length_le (by omega)]; exact ih j
theorem new_inv {load : List (List OpD)} (hv : checkV x = 0) (hlen : ∀ l ∈ load, l.length ≤ 1000) (hop : ∀ l ∈ load, ∀ o ∈ l, rightB o = true) : Inv x 0 (newH (x, load)) := by
  have hX : ∀ i, X (newH (x, load)) i = wk0 := fun i => (newL_at x.w load load.length i).1
  have na : ∀ i, ¬ act (newH (x, load)) i := fun i h => h.2 (by rw [hX]; rfl)
  have gT : ∀ v, getT (newH (x, load)).told v = [] := fun v => by
    show getT ⟨[], [], [], [], [], [], [], []⟩ v = []
    unfold getT; repeat' split
    all_goals rfl
  have is0 : ∀ i, iss (newH (x, load)) i = [] := fun i => by
    unfold Go.Proofs.YtaeepogbgflbpaaGreat.iss
    rw [gT, hX, if_neg (by decide)]; rfl
  refine ⟨rfl, newL_size _ _ _, fun i => ?_, Nat.zero_le _, fun e he => (by cases he), evok_nil, fun w => (by rw [gT]; exact Nat.zero_le _), fun w => ?_, fun w o ho => ?_, ⟨_, new_glob hv, fun i ha => absurd ha (na i)⟩, fun i j ha => absurd ha (na i), fun t g s _ => ?_, fun i _ t ht => ?_, fun i _ => ?_, fun i j _ _ _ t ht => ?_, fun t ht => ?_, fun i ha => absurd ha (na i), fun i j ha => absurd ha (na i)⟩
  · rw [hX]; exact ⟨Nat.zero_le _, Nat.zero_le _, Nat.zero_le _⟩
  · obtain ⟨_, h2, h3⟩ := newL_at x.w load load.length w.toNat
    refine ⟨Int.le_of_eq h2.symm, ?_⟩
    show ((newL x.w load load.length).getD w.toNat (K.dflt (tab 59))).prog.length ≤ 1000
    rcases h3 with h3 | h3
    · rw [h3]; exact Nat.zero_le _
    · exact hlen _ h3
  · obtain ⟨_, h2, h3⟩ := newL_at x.w load load.length w.toNat
    have ho : o ∈ ((newL x.w load load.length).getD w.toNat (K.dflt (tab 59))).prog := ho
    rcases h3 with h3 | h3
    · rw [h3] at ho; cases ho
    · exact hop _ h3 o ho
  · exfalso
    obtain ⟨_, ⟨h1, h2⟩, _⟩ := good_iff g
    obtain ⟨j, hj⟩ : ∃ j : Nat, tkE t = j := ⟨(tkE t).toNat, by omega⟩
    have s : entS (Ew (newM x) (tkE t)) = 1 := s
    rw [hj] at s h2
    rw [(new_ent hv h2).1, entS_eq] at s
    exact absurd s (by decide)
  · rw [is0] at ht; cases ht
  · rw [is0]; exact List.nodup_nil
  · rw [is0] at ht; cases ht
  · have : (false : Bool) = true := ht
    cases this
end
end Go.Proofs.YtaeepogbgflbpaaGreat
end

/- What holds of a hall behind a whole run: its tickets and its events are as they should be. No condition. -/
section
set_option linter.unusedVariables false
set_option linter.unusedSimpArgs false
set_option maxRecDepth 100000
namespace Go.Proofs.YtaeepogbgflbpaaGreat
open Go Go.Ax

theorem WI.okl {m : Md} {T : Int → Prop} {S : List Int} {a : Wk} (h : WI m T S a) : okLine a ∨ a.line = 0 := by
  have f : a.give = false → (a.line = 1 ∨ a.line = 2 ∨ a.line = 3 ∨ a.line = 90 ∨ a.line = 70 ∨ a.line = 71 ∨ a.line = 72 ∨ a.line = 73 ∨ a.line = 36 ∨ a.line = 37 ∨ takeL a ∨ a.line = 20 ∨ a.line = 21 ∨ a.line = 22 ∨ a.line = 40 ∨ a.line = 41 ∨ a.line = 23 ∨ a.line = 24 ∨ a.line = 25 ∨ a.line = 42 ∨ a.line = 43 ∨ a.line = 46 ∨ a.line = 44 ∨ a.line = 45 ∨ a.line = 60 ∨ a.line = 61 ∨ a.line = 62) → okLine a ∨ a.line = 0 := fun g l => by
    left; left
    refine ⟨g, ?_⟩
    unfold takeL at l
    simp only [linesF, List.mem_cons, List.not_mem_nil, or_false]
    omega
  have c : cls a → okLine a ∨ a.line = 0 := fun c => by
    rcases c with ⟨g, l⟩ | ⟨g, l⟩
    · left; right
      refine ⟨g, ?_⟩
      simp only [linesT, List.mem_cons, List.not_mem_nil, or_false]
      omega
    · rcases l with l | l
      · exact f g (by omega)
      · exact .inr l
  cases h with
  | oth k o =>
    rcases o with ⟨_, g, l⟩ | ⟨_, g, l⟩ | ⟨_, g, l⟩ | ⟨_, g, l⟩ | o
    · exact f g (by omega)
    · exact f g (by omega)
    · exact f g (by omega)
    · exact f g (by omega)
    · exact c o
  | ent k g l => exact f g (by omega)
  | chk k g => exact f g (by omega)
  | tak k g l => exact f g (by simp only [l, true_or, or_true])
  | pop k g r t l => exact f g (by omega)
  | kil k g r rd gd t l => exact f g (by omega)
  | pus k g r gd t d o l => exact f g (by omega)
  | wri k g r gd t l => exact f g (by omega)
  | red k g r gd t l => exact f g (by omega)
  | cl3 k o => exact c o
  | cl4 k o => exact c o
theorem play_load {x : Cfg} {load : List (List OpD)} {p : List Int} (h : playB (x, load, p) = true) : checkV x = 0 ∧ p.length ≤ 400 ∧ (∀ l ∈ load, l.length ≤ 1000) ∧ (∀ l ∈ load, ∀ o ∈ l, rightB o = true) := by
  have hv := play_valid h
  unfold playB at h
  rw [Bool.and_eq_true, decide_eq_true_eq] at h
  obtain ⟨h1, h2⟩ := h
  have h1 : greatB (x, load, p) = false := by simpa using h1
  obtain ⟨g1, g2, g3⟩ := great_load h1
  refine ⟨hv, g2, fun l hl => by have := g3 l hl; omega, fun l hl o ho => ?_⟩
  unfold newE at h2
  rw [if_pos hv] at h2
  by_cases e1 : x.w < (load.length : Int)
  · rw [if_pos e1] at h2; cases h2
  rw [if_neg e1] at h2
  by_cases e2 : load.any (fun l => decide (200 < l.length)) = true
  · rw [if_pos e2] at h2; cases h2
  rw [if_neg e2] at h2
  by_cases e3 : load.any anyW = true
  · rw [if_pos e3] at h2; cases h2
  have e3 : load.any anyW = false := by simpa using e3
  have h4 : anyW l = false := by simpa using List.any_eq_false.1 e3 l hl
  have h5 := List.any_eq_false.1 h4 o ho
  unfold wrongB at h5
  simpa using h5
section
variable {x : Cfg} {load : List (List OpD)} {p : List Int}
theorem run_inv (h : playB (x, load, p) = true) (i : Nat) (hi : i ≤ p.length) : Inv x i (stR (newH (x, load)) p i) := by
  obtain ⟨hv, hp, hl, ho⟩ := play_load h
  induction i with
  | zero => exact new_inv hv hl ho
  | succ i ih =>
    rw [stR_succ _ _ _ (by omega)]
    exact inv_pick (ih (by omega)) (by omega) _
theorem inv_fine {n : Nat} {h : Hl} (I : Inv x n h) (hn : n ≤ 400) : Fine h ∧ ∀ w, isW h w = true → okLine (wrAt h w).x ∨ (wrAt h w).x.line = 0 := by
  obtain ⟨S, G, wis⟩ := I.st
  have Z := sizes_of G.w.v
  have h8 : h.l.length ≤ 8 := by have := Z.w; have e := I.len; rw [I.c] at this; omega
  refine ⟨⟨h8, by have := I.evn; omega, fun w => by have := I.toldn w; omega, fun w => (I.lim w.toNat).mono (by omega), Z.b, I.prog, I.ops⟩, fun w hw => ?_⟩
  by_cases hz : (wrAt h w).x.line = 0
  · exact .inr hz
  · exact (wis w.toNat ⟨isW_nat hw, hz⟩).okl
theorem play_fine (x : Cfg) (load : List (List OpD)) (p : List Int) : playP (x, load, p) := by
  intro h
  obtain ⟨hv, hp, hl, ho⟩ := play_load h
  have hp' : p.length ≤ 400 := hp
  show p.length ≤ 1000 ∧ ∀ i, i < p.length → pickP (stR (newH (x, load)) p i) (p.getD i 0)
  refine ⟨by omega, fun i hi => ?_⟩
  have I := run_inv h i (by omega)
  obtain ⟨h1, h2⟩ := inv_fine I (by omega)
  exact ⟨h1, h2 _⟩
theorem play_inv (h : playB (x, load, p) = true) : Inv x p.length (playH (x, load, p)) ∧ p.length ≤ 400 := by
  have I := run_inv h p.length (Nat.le_refl _)
  rw [stR_full] at I
  exact ⟨I, (play_load h).2.1⟩
theorem told_iss {h : Hl} {w : Nat} {t : Int} (ht : t ∈ toldH h (w : Int)) : w < h.l.length ∧ t ∈ getT h.told (w : Int) ∧ t ∈ iss h w := by
  unfold toldH at ht
  by_cases hw : isW h (w : Int) = true
  · rw [if_pos hw] at ht
    exact ⟨isW_nat hw, ht, List.mem_append_left _ ht⟩
  · rw [if_neg hw] at ht; cases ht
end
end Go.Proofs.YtaeepogbgflbpaaGreat
end
