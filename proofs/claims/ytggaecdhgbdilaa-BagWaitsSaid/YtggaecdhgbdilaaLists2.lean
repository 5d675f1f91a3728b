/- The contracts of the functions on lists. No condition. -/
import Derived.Test.YtggaecdhgbdilaaVc1
import Derived.IntWalk
set_option linter.unusedVariables false
set_option linter.unusedSimpArgs false
set_option maxRecDepth 100000
namespace Go.Proofs.Ytggaecdhgbdilaa
open Go Go.Ax

abbrev wr (n : Int) : Int := IntKind.wrap .i64 n
theorem wr_in {n : Int} (h : -9223372036854775808 ≤ n ∧ n ≤ 9223372036854775807) : wr n = n := IntWalk.i64_in n h
theorem natlt {i : Nat} {n : Int} (h : decide ((i : Int) < n) = true) : (i : Int) < n := of_decide_eq_true h
theorem natge {i : Nat} {n : Int} (h : decide ((i : Int) < n) = false) : n ≤ (i : Int) := by have := of_decide_eq_false h; omega
theorem next_int {i : Nat} {n : Int} (h : (i : Int) < n) (hn : n ≤ 1000000) : EqA (AVal.int IntKind.i64 (wr ((i : Int) + 1))) (AVal.int IntKind.i64 ((i + 1 : Nat) : Int)) := by
  have : wr ((i : Int) + 1) = ((i + 1 : Nat) : Int) := by rw [wr_in (by omega)]; omega
  rw [this]
theorem get_int {l : List Int} {s : Nat} (h : s < l.length) : List.getD l (Int.toNat (s : Int)) 0 = l[s] := by rw [Int.toNat_natCast, List.getD_eq_getElem?_getD, List.getElem?_eq_getElem h]; rfl
theorem sameS_len : ∀ (a b : List Int), a.length ≠ b.length → sameS a b = false := by
  intro a
  induction a with
  | nil => intro b hb; cases b with
    | nil => exact absurd rfl hb
    | cons y b => rfl
  | cons x a ih => intro b hb; cases b with
    | nil => rfl
    | cons y b => simp [sameS, ih b (by simpa using hb)]
theorem sameS_iff : ∀ (a b : List Int), sameS a b = true ↔ a = b := by
  intro a
  induction a with
  | nil => intro b; cases b with
    | nil => simp [sameS]
    | cons y b => simp [sameS]
  | cons x a ih => intro b; cases b with
    | nil => simp [sameS]
    | cons y b => simp [sameS, ih b]
theorem sameS_self (a : List Int) : sameS a a = true := (sameS_iff a a).2 rfl

/-- The common part of four texts. -/
theorem eq_core (a b : List Int) (h : small a) :
    ( cnd (((List.length a : Nat) : Int) != ((List.length b : Nat) : Int)) (false = sameS a b) ((∃ (s0 : Nat), (s0 ≤ List.length a ∧ sameS (List.drop 0 a) (List.drop 0 b) = sameS (List.drop s0 a) (List.drop s0 b)) ∧
      (EqA (AVal.int IntKind.i64 0) (AVal.int IntKind.i64 (s0 : Int)) ∧ True) ∧ True ∧ True) ∧ ∀ (s : Nat), s ≤ List.length a ∧ sameS (List.drop 0 a) (List.drop 0 b) = sameS (List.drop s a) (List.drop s b) →
      cnd (decide ((s : Int) < ((List.length a : Nat) : Int))) (((0 : Int) ≤ (s : Int) ∧ (s : Int) < ((List.length a : Nat) : Int)) ∧ ((0 : Int) ≤ (s : Int) ∧ (s : Int) < ((List.length b : Nat) : Int)) ∧
      cnd (List.getD a (Int.toNat (s : Int)) 0 != List.getD b (Int.toNat (s : Int)) 0) (false = sameS a b) (∃ (s' : Nat), (s' ≤ List.length a ∧ sameS (List.drop 0 a) (List.drop 0 b) = sameS (List.drop s' a) (List.drop s' b)) ∧
      List.length a - s' < List.length a - s ∧ (EqA (AVal.int IntKind.i64 (IntKind.wrap IntKind.i64 ((s : Int) + 1))) (AVal.int IntKind.i64 (s' : Int)) ∧ True) ∧ True ∧ True)) (true = sameS a b))) := by
  unfold small at h
  refine cnd_intro (fun hl => ?_) (fun hl => ?_)
  · have hl : a.length ≠ b.length := by
      intro h; rw [h] at hl; simp at hl
    exact (sameS_len a b hl).symm
  · have hl : a.length = b.length := by
      have : (a.length : Int) = b.length := by simpa using hl
      omega
    refine ⟨⟨0, ⟨by omega, rfl⟩, ⟨rfl, trivial⟩, trivial, trivial⟩, ?_⟩
    rintro s ⟨hs0, hs1⟩
    refine cnd_intro (fun h => ?_) (fun h => ?_)
    · have h := natlt h
      have ha : s < a.length := by omega
      have hb : s < b.length := by omega
      refine ⟨⟨by omega, by omega⟩, ⟨by omega, by omega⟩, ?_⟩
      rw [List.drop_eq_getElem_cons ha, List.drop_eq_getElem_cons hb] at hs1
      rw [get_int ha, get_int hb]
      refine cnd_intro (fun hc => ?_) (fun hc => ?_)
      · have hc : a[s] ≠ b[s] := by simpa using hc
        have e : sameS a b = false := by
          rw [List.drop_zero, List.drop_zero] at hs1
          rw [hs1]; simp [sameS, hc]
        rw [e]
      · have hc : a[s] = b[s] := by simpa using hc
        refine ⟨s + 1, ⟨by omega, ?_⟩, by omega, ⟨next_int h (by omega), trivial⟩, trivial, trivial⟩
        rw [hs1]; simp [sameS, hc]
    · have h := of_decide_eq_false h
      rw [List.drop_eq_nil_of_le (show a.length ≤ s from by omega), List.drop_eq_nil_of_le (show b.length ≤ s from by omega), List.drop_zero, List.drop_zero] at hs1
      rw [hs1]; rfl
theorem ok32 : GOk cx 32 (eqL aL) := plain_ok noΓ_ok Try.func32 (body_of (by kernel_rfl)) Try.call32 (fun ⟨a, b⟩ h => ⟨specE 13 a b, 100, by
  have e := vc_eq32 (fun q => q = sameS a b) a b
  rw [e]; exact eq_core a b h⟩)
theorem ok33 : GOk cx 33 (eqL aW) := plain_ok noΓ_ok Try.func33 (body_of (by kernel_rfl)) Try.call33 (fun ⟨a, b⟩ h => ⟨specE 13 a b, 100, by
  have e := vc_eq33 (fun q => q = sameS a b) a b
  rw [e]; exact eq_core a b h⟩)
theorem ok34 : GOk cx 34 (eqL aL) := plain_ok noΓ_ok Try.func34 (body_of (by kernel_rfl)) Try.call34 (fun ⟨a, b⟩ h => ⟨specE 5 a b, 100, by
  have e := vc_eq34 (fun q => q = sameS a b) a b
  rw [e]; exact eq_core a b h⟩)
theorem ok35 : GOk cx 35 (eqL aW) := plain_ok noΓ_ok Try.func35 (body_of (by kernel_rfl)) Try.call35 (fun ⟨a, b⟩ h => ⟨specE 5 a b, 100, by
  have e := vc_eq35 (fun q => q = sameS a b) a b
  rw [e]; exact eq_core a b h⟩)
theorem idxS_cons (a : Int) (l : List Int) (v : Int) (i : Nat) : idxS (a :: l) v i = if v = a then (i : Int) else idxS l v (i + 1) := by
  show (match v == a with | true => (i : Int) | false => idxS l v (i + 1)) = _
  by_cases h : v = a
  · rw [if_pos h]; simp [h]
  · rw [if_neg h]
    have : (v == a) = false := by simpa using h
    rw [this]
theorem ok46 : GOk cx 46 (plain (.pair aL aI) aI (fun x => small x.1) fun x => idxS x.1 x.2 0) := plain_ok noΓ_ok Try.func46 (body_of (by kernel_rfl)) Try.call46 (fun ⟨a, v⟩ h => ⟨specI a v, 100, by
  have e := vc_idx (fun q => q = idxS a v 0) a v
  rw [e]; clear e
  have h : a.length ≤ 100000 := h
  refine ⟨⟨0, ⟨by omega, rfl⟩, ⟨rfl, trivial⟩, trivial, trivial⟩, ?_⟩
  rintro s ⟨hs0, hs1⟩
  refine cnd_intro (fun h => ?_) (fun h => ?_)
  · have h := natlt h
    have ha : s < a.length := by omega
    refine ⟨⟨by omega, by omega⟩, ?_⟩
    rw [List.drop_eq_getElem_cons ha, idxS_cons] at hs1
    rw [get_int ha]
    refine cnd_intro (fun hc => ?_) (fun hc => ?_)
    · have hc : v = a[s] := by simpa using hc
      rw [if_pos hc, List.drop_zero] at hs1
      rw [hs1]
    · have hc : ¬ v = a[s] := by simpa using hc
      rw [if_neg hc] at hs1
      exact ⟨s + 1, ⟨by omega, hs1⟩, by omega, ⟨next_int h (by omega), trivial⟩, trivial, trivial⟩
  · have h := of_decide_eq_false h
    rw [List.drop_eq_nil_of_le (show a.length ≤ s from by omega), List.drop_zero] at hs1
    rw [hs1]; rfl⟩)
theorem Γ1_ok : ∀ f g, Γ1 f = some g → GOk cx f g := addΓ_ok (addΓ_ok (addΓ_ok (addΓ_ok (addΓ_ok noΓ_ok ok32) ok33) ok34) ok35) ok46
theorem idxS_has (l : List Int) (v : Int) : ∀ i : Nat, decide (0 ≤ idxS l v i) = hasS l v := by
  induction l with
  | nil => intro i; rfl
  | cons a l ih =>
    intro i
    rw [idxS_cons]
    by_cases h : v = a
    · rw [if_pos h]; simp [hasS, h]
    · rw [if_neg h, ih]
      have : (v == a) = false := by simpa using h
      simp [hasS, this]
theorem ok43 : GOk cx 43 (plain (.pair aL aI) cdB (fun x => small x.1) fun x => hasS x.1 x.2) := plain_ok Γ1_ok Try.func43 (body_of (by kernel_rfl)) Try.call43 (fun ⟨a, v⟩ h => ⟨noSpec, 100, by
  have e := vc_has (fun q => q = hasS a v) a v
  rw [e]; exact ⟨h, idxS_has a v 0⟩⟩)
theorem ok36 : GOk cx 36 (freshV aL 3 small id) := freshV_ok noΓ_ok Try.func36 (body_of (by kernel_rfl)) Try.call36 (fun a h => ⟨noSpec, 100, by
  have e := vc_clone (fun q => q = a) a
  refine Eq.mpr e ?_; clear e
  have h : a.length ≤ 100000 := h
  refine cnd_intro (fun he => ?_) (fun he => ?_)
  · have : a = [] := by simpa using he
    subst this
    exact ⟨rfl, by simp, rfl⟩
  · exact ⟨by omega, rfl⟩⟩)
theorem ok37 : GOk cx 37 (freshV aW 22 small id) := freshV_ok noΓ_ok Try.func37 (body_of (by kernel_rfl)) Try.call37 (fun a h => ⟨noSpec, 100, by
  have e := vc_clonew (fun q => q = a) a
  refine Eq.mpr e ?_; clear e
  have h : a.length ≤ 100000 := h
  refine cnd_intro (fun he => ?_) (fun he => ?_)
  · have : a = [] := by simpa using he
    subst this
    exact ⟨rfl, by simp, rfl⟩
  · exact ⟨by omega, rfl⟩⟩)
theorem Γ2_ok : ∀ f g, Γ2 f = some g → GOk cx f g := addΓ_ok (addΓ_ok (addΓ_ok Γ1_ok ok43) ok36) ok37
end Go.Proofs.Ytggaecdhgbdilaa
