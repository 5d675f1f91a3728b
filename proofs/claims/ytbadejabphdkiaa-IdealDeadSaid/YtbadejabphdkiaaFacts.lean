/- The ideal pool in plain terms: what a step does to live and dead tickets. No condition. -/
import Derived.Test.YtbadejabphdkiaaVc3
set_option linter.unusedVariables false
set_option linter.unusedSimpArgs false
set_option maxRecDepth 100000
namespace Go.Proofs.Ytbadejabphdkiaa
open Go Go.Ax

section maps
variable {X : Type}
theorem hasM_set (m : List (Int × X)) (a b : Int) (x : X) : hasM (setM m a x) b = (decide (b = a) || hasM m b) := by
  induction m with
  | nil => by_cases h : b = a <;> simp [setM, hasM, h]
  | cons p m ih =>
    by_cases h : a = p.1
    · by_cases hb : b = a
      · subst hb; simp [setM, hasM, h]
      · have : b ≠ p.1 := by rw [← h]; exact hb
        simp [setM, hasM, h, hb, this]
    · by_cases hb : b = p.1
      · simp [setM, hasM, h, hb]
      · simp [setM, hasM, h, hb, ih]
theorem hasM_del_ne (m : List (Int × X)) (a b : Int) (h : b ≠ a) : hasM (delM m a) b = hasM m b := by
  induction m with
  | nil => rfl
  | cons p m ih =>
    by_cases ha : a = p.1
    · have : b ≠ p.1 := by rw [← ha]; exact h
      simp [delM, hasM, ha, this]
    · by_cases hb : b = p.1
      · simp [delM, hasM, ha, hb]
      · simp [delM, hasM, ha, hb, ih]
theorem hasM_del (m : List (Int × X)) (a : Int) (h : nodK m) : hasM (delM m a) a = false := by
  induction m with
  | nil => rfl
  | cons p m ih =>
    obtain ⟨h1, h2⟩ := h
    by_cases ha : a = p.1
    · simp only [delM, if_pos ha]; rw [ha]; exact h1
    · simp [delM, hasM, ha, ih h2]
theorem nodK_set (m : List (Int × X)) (a : Int) (x : X) (h : nodK m) : nodK (setM m a x) := by
  induction m with
  | nil => exact ⟨rfl, trivial⟩
  | cons p m ih =>
    obtain ⟨h1, h2⟩ := h
    by_cases ha : a = p.1
    · simp only [setM, if_pos ha]; exact ⟨by rw [ha]; exact h1, h2⟩
    · simp only [setM, if_neg ha]
      refine ⟨?_, ih h2⟩
      rw [hasM_set, h1]; simp; exact fun h => ha h.symm
theorem nodK_del (m : List (Int × X)) (a : Int) (h : nodK m) : nodK (delM m a) := by
  induction m with
  | nil => trivial
  | cons p m ih =>
    obtain ⟨h1, h2⟩ := h
    by_cases ha : a = p.1
    · simp only [delM, if_pos ha]; exact h2
    · simp only [delM, if_neg ha]
      exact ⟨by rw [hasM_del_ne _ _ _ (fun h => ha h.symm)]; exact h1, ih h2⟩
theorem getM_set (m : List (Int × X)) (a b : Int) (x d : X) : getM (setM m a x) b d = if b = a then x else getM m b d := by
  unfold getM
  induction m with
  | nil => by_cases h : b = a <;> simp [setM, findM, h]
  | cons p m ih =>
    by_cases h : a = p.1
    · by_cases hb : b = a
      · subst hb; simp [setM, findM, h]
      · have : b ≠ p.1 := by rw [← h]; exact hb
        simp [setM, findM, h, hb, this]
    · by_cases hb : b = p.1
      · have : b ≠ a := by rw [hb]; exact fun h' => h h'.symm
        simp [setM, findM, h, hb]
        exact fun h' => absurd h'.symm h
      · simp only [setM, if_neg h, findM, if_neg hb]; exact ih
end maps

/-- What the law asks of a step. -/
structure Facts (a : Ans) (L : MapL) (D : MapD) (ok : Bool) (L' : MapL) (D' : MapD) : Prop where
  f1 : hasM L a.t = true → hasM L' a.t = false → a.op.k = 4 ∧ a.ret = 0
  f2 : hasM L a.t = false → hasM L' a.t = true → a.op.k = 3 ∧ toldM L D a.t = false
  f3 : toldM L D a.t = true → hasM L' a.t = false → getM D' a.t false = true
  f4 : ok = false → hasM L a.t = hasM L' a.t
  f5 : ∀ u, hasM L u = false → toldM L D u = true → hasM L' u = false ∧ toldM L' D' u = true
  nod : nodK L'
theorem facts {a : Ans} {L : MapL} {D : MapD} {ok : Bool} {L' : MapL} {D' : MapD} (hn : nodK L) (h : StepRel a L D ok L' D') : Facts a L D ok L' D' := by
  rcases h.way with ⟨rfl, rfl⟩ | ⟨rfl, hk, ht, rfl, rfl⟩ | ⟨rfl, hh, rfl, rfl⟩ | ⟨rfl, hk, hr, hh, rfl, rfl⟩
  · refine ⟨fun h1 h2 => (by rw [h1] at h2; cases h2), fun h1 h2 => (by rw [h1] at h2; cases h2), fun h1 h2 => ?_, fun _ => rfl, fun u h1 h2 => ⟨h1, h2⟩, hn⟩
    unfold toldM at h1; rw [h2] at h1; simpa using h1
  · have hs : hasM (setM L a.t a.op.x) a.t = true := by rw [hasM_set]; simp
    refine ⟨fun h1 h2 => (by rw [hs] at h2; cases h2), fun h1 h2 => ⟨hk, ht⟩, fun h1 h2 => (by rw [hs] at h2; cases h2), fun h => (by cases h), fun u h1 h2 => ?_, nodK_set _ _ _ hn⟩
    have hu : u ≠ a.t := fun e => by rw [e, ht] at h2; cases h2
    have e1 : hasM (setM L a.t a.op.x) u = hasM L u := by rw [hasM_set]; simp [hu]
    refine ⟨by rw [e1]; exact h1, ?_⟩
    unfold toldM at h2 ⊢; rw [e1]; exact h2
  · have hs : hasM (setM L a.t a.op.x) a.t = true := by rw [hasM_set]; simp
    refine ⟨fun h1 h2 => (by rw [hs] at h2; cases h2), fun h1 h2 => (by rw [hh] at h1; cases h1), fun h1 h2 => (by rw [hs] at h2; cases h2), fun h => (by cases h), fun u h1 h2 => ?_, nodK_set _ _ _ hn⟩
    have hu : u ≠ a.t := fun e => by rw [e, hh] at h1; cases h1
    have e1 : hasM (setM L a.t a.op.x) u = hasM L u := by rw [hasM_set]; simp [hu]
    refine ⟨by rw [e1]; exact h1, ?_⟩
    unfold toldM at h2 ⊢; rw [e1]; exact h2
  · have hs : hasM (delM L a.t) a.t = false := hasM_del _ _ hn
    refine ⟨fun h1 h2 => ⟨hk, hr⟩, fun h1 h2 => (by rw [hh] at h1; cases h1), fun h1 h2 => (by rw [getM_set]; simp), fun h => (by cases h), fun u h1 h2 => ?_, nodK_del _ _ hn⟩
    have hu : u ≠ a.t := fun e => by rw [e, hh] at h1; cases h1
    have e1 : hasM (delM L a.t) u = hasM L u := hasM_del_ne _ _ _ hu
    refine ⟨by rw [e1]; exact h1, ?_⟩
    unfold toldM at h2 ⊢; rw [e1, getM_set, if_neg hu]; exact h2
/-- The head holds again. -/
theorem dead_next {l : List Ans} {i : Nat} {L : MapL} {D : MapD} {V : List Bool} {ok : Bool} {L' : MapL} {D' : MapD} (h : DeadInv l i L D V) (hi : i < l.length)
    (hs : StepRel (l.getD i ansD) L D ok L' D') (v : Bool) (hv : v = true → hasM L (l.getD i ansD).t = true ∧ hasM L' (l.getD i ansD).t = false) : DeadInv l (i + 1) L' D' (V.set i v) := by
  have f := facts h.nod hs
  refine ⟨hi, by rw [List.length_set]; exact h.len, f.nod, fun j hj hd => ?_⟩
  by_cases e : j = i
  · subst e
    have hlen : j < V.length := by rw [h.len]; exact hi
    have hd : v = true := by simpa [List.getD, hlen] using hd
    obtain ⟨h1, h2⟩ := hv hd
    refine ⟨h2, ?_⟩
    have := f.f3 (by unfold toldM; rw [h1]; rfl) h2
    unfold toldM; rw [this]; simp
  · have hd : V.getD j false = true := by
      simpa [List.getD, List.getElem?_set_ne (fun e' => e e'.symm)] using hd
    obtain ⟨h1, h2⟩ := h.gone j (by omega) hd
    exact f.f5 _ h1 h2
/-- What the law looks at in its inner loop. -/
theorem dead_not {l : List Ans} {i : Nat} {L : MapL} {D : MapD} {V : List Bool} (h : DeadInv l i L D V) {j : Nat} (hj : j < i) (hd : V.getD j false = true) (hh : hasM L (l.getD j ansD).t = true) : False := by
  obtain ⟨h1, _⟩ := h.gone j hj hd
  rw [h1] at hh; cases hh
theorem dead_first (l : List Ans) : DeadInv l 0 [] [] (List.replicate l.length false) := ⟨Nat.zero_le _, by simp, trivial, fun j hj => absurd hj (by omega)⟩

theorem leafT {a : Ans} {L : MapL} {D : MapD} {b : Bool} {L1 : MapL} {D1 : MapD} {A B : Res El} (h : StepRel a L D b L1 D1) :
    ∃ (s0 : Bool × MapL × MapD), StepRel a L D s0.fst s0.snd.fst s0.snd.snd ∧ (EqA (AVal.bool b) (AVal.bool s0.fst) ∧ True) ∧ (EqR A A ∧ EqR B B ∧ EqR (Res.mapS IntKind.u64 28 L1) (Res.mapS IntKind.u64 28 s0.snd.fst) ∧ EqR (Res.mapS IntKind.u64 4 D1) (Res.mapS IntKind.u64 4 s0.snd.snd) ∧ True) ∧ True :=
  ⟨(b, L1, D1), h, ⟨rfl, trivial⟩, ⟨rfl, rfl, rfl, rfl, trivial⟩, trivial⟩
theorem leaf0 {a : Ans} {L : MapL} {D : MapD} {b : Bool} {L1 : MapL} {D1 : MapD} {A : AVal El} {B : Res El} (h : StepRel a L D b L1 D1) :
    ∃ (s0 : Bool × MapL × MapD), StepRel a L D s0.fst s0.snd.fst s0.snd.snd ∧ (EqA (AVal.bool b) (AVal.bool s0.fst) ∧ True) ∧ ((True ∧ EqA A A ∧ True ∧ True ∧ True) ∧ EqR B B ∧ EqR (Res.mapS IntKind.u64 28 L1) (Res.mapS IntKind.u64 28 s0.snd.fst) ∧ EqR (Res.mapS IntKind.u64 4 D1) (Res.mapS IntKind.u64 4 s0.snd.snd) ∧ True) ∧ True :=
  ⟨(b, L1, D1), h, ⟨rfl, trivial⟩, ⟨⟨trivial, rfl, trivial, trivial, trivial⟩, rfl, rfl, rfl, trivial⟩, trivial⟩
theorem leafU {A B C E : Res El} : ∃ (s0 : Unit), True ∧ True ∧ (EqR A A ∧ EqR B B ∧ EqR C C ∧ EqR E E ∧ True) ∧ True := ⟨(), trivial, trivial, ⟨rfl, rfl, rfl, rfl, trivial⟩, trivial⟩
theorem leafN {A B C E : Res El} {j n : Nat} (h1 : j < n) (hn : n ≤ 1000) (h2 : (j : Int) < 1000) :
    ∃ (s' : Nat), s' ≤ n ∧ n - s' < n - j ∧ (EqA (AVal.int IntKind.i64 (IntKind.wrap IntKind.i64 ((j : Int) + 1))) (AVal.int IntKind.i64 (s' : Int)) ∧ True) ∧ (EqR A A ∧ EqR B B ∧ EqR C C ∧ EqR E E ∧ True) ∧ True :=
  ⟨j + 1, h1, by omega, ⟨next_int h1 (by omega), trivial⟩, ⟨rfl, rfl, rfl, rfl, trivial⟩, trivial⟩
end Go.Proofs.Ytbadejabphdkiaa
