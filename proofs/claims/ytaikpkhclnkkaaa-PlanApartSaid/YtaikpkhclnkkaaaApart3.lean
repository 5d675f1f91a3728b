/- The statement PlanApart, by the executor: it comes back true. No condition. -/
import Derived.Test.YtaikpkhclnkkaaaApart2
set_option linter.unusedVariables false
set_option linter.unusedSimpArgs false
set_option maxRecDepth 100000
namespace Go.Proofs.Ytaikpkhclnkkaaa
open Go Go.Ax

theorem awake_told : aexecF cnd cx ΓE noSpec 100 Try.f6 (codeOf Try.f6) [] [] (fun y _ => y = .bool true) := by
  have e := vc_awake (fun y => y = .bool true)
  rw [e]; exact ⟨trivial, trivial, trivial, rfl⟩
theorem natlt {i : Nat} {n : Int} (h : decide ((i : Int) < n) = true) : (i : Int) < n := of_decide_eq_true h
theorem natge {i : Nat} {n : Int} (h : decide ((i : Int) < n) = false) : n ≤ (i : Int) := by have := of_decide_eq_false h; omega
theorem next_int {i : Nat} {n : Int} (h : (i : Int) < n) (hn : n ≤ 1000) : EqA (AVal.int IntKind.i64 (wr ((i : Int) + 1))) (AVal.int IntKind.i64 ((i + 1 : Nat) : Int)) := by
  have : wr ((i : Int) + 1) = ((i + 1 : Nat) : Int) := by rw [wr_in (by omega)]; omega
  rw [this]

set_option maxHeartbeats 4000000 in
theorem apart_told (x : Cfg) : aexecF cnd cx (ΓF cnd) (specA x) 200 Try.f3 (codeOf Try.f3) (aCfg.enc x) [] (fun y _ => y = .bool true) := by
  have e := vc_apart (fun y => y = .bool true) x
  rw [e]; clear e
  refine ⟨trivial, trivial, cnd_intro (fun h => ?_) (fun _ => rfl)⟩
  have hv : checkV x = 0 := by simpa using h
  rw [newV_eq hv]; clear h
  have Z := sizes_of hv
  refine cnd_intro (fun _ => rfl) (fun hT => ?_)
  have t20 : x.s * x.b ≤ 20 := by
    have h1 := of_decide_eq_false hT
    have := Z.tb
    rw [IntWalk.i64_in (x.s * x.b) (by omega)] at h1
    omega
  clear hT
  obtain ⟨P, hP⟩ : ∃ P, P = x.s * x.b * (1 + x.o) := ⟨_, rfl⟩
  rw [← hP] at Z
  obtain ⟨T, hT⟩ : ∃ T, T = x.s * x.b := ⟨_, rfl⟩
  rw [← hT] at Z t20 hP
  have hs := Z.size
  have b1 := Z.w
  have b2 := Z.s
  have b3 := Z.e
  have b4 := Z.o
  have b5 := Z.tb
  have b6 := Z.pb
  have hN : ((sz x : Nat) : Int) = sizeV x := by unfold sz; omega
  have hlen : ∀ k, k ≤ sz x → ((oz k (sz x)).length : Int) = sizeV x := fun k hk => by rw [length_oz _ _ hk, hN]
  refine ⟨trivial, cnd_intro (fun h3 => cnd_intro (fun h4 => ?_) (fun h4 => ?_)) (fun h3 => ?_)⟩
  · exact absurd (of_decide_eq_true h4) (by omega)
  rotate_left
  · simp only [beq_false, Bool.not_eq_false', decide_eq_true_eq] at h3
    omega
  clear h3 h4
  have hr : (sizeV x).toNat = sz x := rfl
  rw [hr]
  have n3 : 3 ≤ sz x := by omega
  rw [start_oz (sz x) n3]
  refine ⟨⟨by omega, rfl, by omega, by omega⟩, by simp only [List.length_set, List.length_replicate]; omega, by simp only [List.length_set, List.length_replicate]; omega,
    by simp only [List.length_set, List.length_replicate]; omega, by simp only [List.length_set, List.length_replicate]; omega,
    by simp only [List.length_set, List.length_replicate]; omega, by simp only [List.length_set, List.length_replicate]; omega, ⟨0, by omega, ⟨rfl, trivial⟩, ⟨rfl, rfl, rfl, rfl, rfl, trivial⟩, rfl⟩, ?_⟩
  intro s hs0
  refine cnd_intro (fun h => ?_) (fun h => ?_)
  · have h := natlt h
    have ha := Z.announce (i := s) ⟨by omega, h⟩
    refine ⟨trivial, put_need (hlen _ (by omega)), s + 1, by omega, by omega, ⟨next_int h (by omega), trivial⟩, ⟨rfl, rfl, rfl, ?_, rfl, trivial⟩, rfl⟩
    exact congrArg _ (put_oz (by omega) (by omega) hN.symm)
  have h := natge h
  obtain rfl : s = x.w.toNat := by omega
  clear h hs0
  refine ⟨⟨0, by omega, ⟨rfl, trivial⟩, ⟨rfl, rfl, rfl, rfl, rfl, trivial⟩, rfl⟩, ?_⟩
  intro s hs0
  refine cnd_intro (fun h => ?_) (fun h => ?_)
  · have h := natlt h
    have ha := Z.slab (i := s) ⟨by omega, h⟩
    refine ⟨trivial, put_need (hlen _ (by omega)), s + 1, by omega, by omega, ⟨next_int h (by omega), trivial⟩, ⟨rfl, rfl, rfl, ?_, rfl, trivial⟩, rfl⟩
    exact congrArg _ (put_oz (by omega) (by omega) hN.symm)
  have h := natge h
  obtain rfl : s = x.s.toNat := by omega
  clear h hs0
  refine ⟨⟨0, by omega, ⟨rfl, trivial⟩, ⟨rfl, rfl, rfl, rfl, rfl, trivial⟩, rfl⟩, ?_⟩
  intro s hs0
  refine cnd_intro (fun h => ?_) (fun h => ?_)
  · have h := natlt h
    have ha := Z.entry (i := s) ⟨by omega, h⟩
    have hb := Z.entryLink (i := s) ⟨by omega, h⟩
    have e1 : putL (oz (3 + x.w.toNat + x.s.toNat + 2 * s) (sz x)) (entryV x s) (sizeV x) = oz (3 + x.w.toNat + x.s.toNat + 2 * s + 1) (sz x) := put_oz (by omega) (by omega) hN.symm
    refine ⟨trivial, put_need (hlen _ (by omega)), trivial, ?_, s + 1, by omega, by omega, ⟨next_int h (by omega), trivial⟩, ⟨rfl, rfl, rfl, ?_, rfl, trivial⟩, rfl⟩
    · rw [e1]; exact put_need (hlen _ (by omega))
    · rw [e1]; exact congrArg _ (put_oz (by omega) (by omega) hN.symm)
  have h := natge h
  obtain rfl : s = x.e.toNat := by omega
  clear h hs0
  have ht := Z.total
  rw [ht]
  refine ⟨⟨0, by omega, ⟨rfl, trivial⟩, ⟨rfl, rfl, rfl, rfl, rfl, trivial⟩, rfl⟩, ?_⟩
  intro s hs0
  have last : ∀ k : Nat, ((k : Nat) : Int) = T → 3 + x.w.toNat + x.s.toNat + 2 * x.e.toNat + (1 + x.o.toNat) * k = sz x := by
    intro k hk
    have e1 : (((1 + x.o.toNat) * k : Nat) : Int) = P := by
      rw [Int.natCast_mul, hP, hk, Int.mul_comm]
      congr 1
      omega
    omega
  have hm : ∀ k : Nat, (((1 + x.o.toNat) * k : Nat) : Int) = (k : Int) * (1 + x.o) := by
    intro k
    rw [Int.natCast_mul, Int.mul_comm]
    congr 1
    omega
  refine ⟨trivial, cnd_intro (fun h => cnd_intro (fun h2 => ?_) (fun h2 => ?_)) (fun h => ?_)⟩
  · have h : (s : Int) < T := by simpa using h
    have hb := Z.blockLink (i := s) ⟨by omega, h⟩
    have hst := Z.step (i := s) ⟨by omega, h⟩
    have hms := hm s
    refine ⟨trivial, put_need (hlen _ (by omega)), ⟨0, by omega, ⟨rfl, trivial⟩, ⟨rfl, rfl, rfl, ?_, rfl, trivial⟩, rfl⟩, ?_⟩
    · exact congrArg _ (put_oz (by omega) (by omega) hN.symm)
    intro k hk0
    refine cnd_intro (fun hk => ?_) (fun hk => ?_)
    · have hk := natlt hk
      have hw := Z.word (i := s) (k := k) ⟨by omega, h⟩ ⟨by omega, hk⟩
      refine ⟨trivial, put_need (hlen _ (by omega)), k + 1, by omega, by omega, ⟨next_int hk (by omega), trivial⟩, ⟨rfl, rfl, rfl, ?_, rfl, trivial⟩, rfl⟩
      exact congrArg _ (put_oz (by omega) (by omega) hN.symm)
    · have hk := natge hk
      obtain rfl : k = x.o.toNat := by omega
      refine ⟨s + 1, by omega, by omega, ⟨next_int h (by omega), trivial⟩, ⟨rfl, rfl, rfl, ?_, rfl, trivial⟩, rfl⟩
      have : 3 + x.w.toNat + x.s.toNat + 2 * x.e.toNat + (1 + x.o.toNat) * (s + 1) = 3 + x.w.toNat + x.s.toNat + 2 * x.e.toNat + (1 + x.o.toNat) * s + 1 + x.o.toNat := by
        rw [Nat.mul_succ]; omega
      rw [this]
  · exfalso
    have h1 : (s : Int) < T := by simpa using h
    have h2 : ¬ (s : Int) < 20 := of_decide_eq_false h2
    omega
  have h1 : ¬ (s : Int) < T := by simpa using h
  have hl := last s (by omega)
  rw [hl]
  refine ⟨⟨0, by omega, ⟨rfl, trivial⟩, ⟨rfl, rfl, rfl, rfl, rfl, trivial⟩, rfl⟩, ?_⟩
  intro i hi0
  refine cnd_intro (fun hi => ?_) (fun hi => rfl)
  have hi := natlt hi
  have hi' : i < sz x := by omega
  have hll := length_oz (sz x) (sz x) (Nat.le_refl _)
  refine ⟨⟨by omega, by omega⟩, by omega, cnd_intro (fun hg => ?_) (fun hg => ?_)⟩
  · exfalso
    rw [Int.toNat_natCast, get_oz hi'] at hg
    cases hg
  · exact ⟨i + 1, by omega, by omega, ⟨next_int hi (by omega), trivial⟩, ⟨rfl, rfl, rfl, rfl, rfl, trivial⟩, rfl⟩
end Go.Proofs.Ytaikpkhclnkkaaa
