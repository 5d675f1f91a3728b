/- IdealDead comes back true, in plain terms. No condition. -/
import Derived.Test.YtbadejabphdkiaaFacts
set_option linter.unusedVariables false
set_option linter.unusedSimpArgs false
set_option maxRecDepth 100000
set_option maxHeartbeats 4000000
namespace Go.Proofs.Ytbadejabphdkiaa
open Go Go.Ax

theorem dead_told (w : Int) (l : List Ans) : aexecF cnd cx Γg (specDead l) 300 Try.f3 (codeOf Try.f3) (aDeadL.enc (w, l)) [] (fun y _ => y = .bool true) := by
  have e := vc_dead (fun y => y = .bool true) w l
  rw [e]; clear e
  have dD : (K.dflt (tab 36) : Ans) = ansD := rfl
  have dB : (K.dflt (tab 4) : Bool) = false := rfl
  refine ⟨trivial, trivial, cnd_intro (fun _ => rfl) (fun hg => ?_)⟩
  have hl : l.length ≤ 60 := by
    have : ¬ 60 < l.length := fun h => by simp [greatL, h] at hg
    omega
  refine ⟨⟨_, ?_, ⟨trivial, trivial⟩, ⟨rfl, trivial⟩, trivial⟩, fun n hn => ⟨⟨by omega, rfl, by omega, by omega⟩, cnd_intro (fun h0 => ?_) (fun _ => rfl)⟩⟩
  · simp only [if_true]
    repeat' split
    all_goals first | omega | (exfalso; simp_all; done)
  have h0 : 0 < l.length := by simpa using h0
  have hd0 := dead_first l
  refine ⟨⟨by omega, by omega⟩, ⟨⟨by omega, by omega⟩, (), trivial, ⟨rfl, trivial⟩, ⟨rfl, rfl, trivial⟩, trivial⟩, fun _ _ => ⟨⟨⟨by omega, by omega⟩, ?_⟩, fun s2 hs2 => ?_⟩⟩
  · repeat' first
      | refine leaf0 ?_
      | refine cnd_intro (fun _ => ?_) (fun _ => ?_)
      | refine And.intro (And.intro (by omega) (by omega)) ?_
      | refine And.intro (by omega) ?_
    all_goals first
      | exact ⟨.inl ⟨rfl, rfl⟩⟩
      | exact ⟨.inr (.inl ⟨rfl, by simp_all, rfl, rfl, rfl⟩)⟩
  have f := facts hd0.nod hs2
  obtain ⟨f1, f2, f3, f4, f5, f6⟩ := f
  refine ⟨⟨by omega, by omega⟩, ?_, fun _ _ => ⟨⟨by omega, by simp; omega⟩, by simp; omega, ⟨0, by omega, ⟨rfl, trivial⟩, ⟨rfl, rfl, rfl, rfl, trivial⟩, trivial⟩, fun j hj => ?_⟩⟩
  · repeat' first
      | exact leafU
      | refine cnd_intro (fun _ => ?_) (fun _ => ?_)
      | refine And.intro (And.intro (by omega) (by omega)) ?_
    all_goals exfalso
    all_goals clear hd0 hs2 f5 f6
    all_goals simp_all [hasM, toldM]
  have hd1 : DeadInv l 1 s2.2.1 s2.2.2 ((List.replicate l.length false).set 0 false) := dead_next hd0 h0 hs2 false (fun h => by cases h)
  refine cnd_intro (fun h => ?_) (fun h => ?_)
  · have hj0 : j < 1 := by have := of_decide_eq_true h; omega
    refine ⟨⟨by omega, by simp; omega⟩, by simp; omega, cnd_intro (fun hv => ⟨⟨by omega, by omega⟩, cnd_intro (fun hh => ?_) (fun _ => leafN hj0 (by omega) (by omega))⟩) (fun _ => leafN hj0 (by omega) (by omega))⟩
    exact (dead_not hd1 hj0 hv hh).elim
  refine ⟨⟨(1, s2.2.1, s2.2.2, (List.replicate l.length false).set 0 false), hd1, ⟨rfl, trivial⟩, ⟨rfl, rfl, rfl, rfl, trivial⟩, trivial⟩, fun s hd => cnd_intro (fun hi => ?_) (fun _ => rfl)⟩
  obtain ⟨i, L, D, V⟩ := s
  dsimp only at hd hi ⊢
  have hi : i < l.length := by have := of_decide_eq_true hi; omega
  have hT : Int.toNat (i : Int) = i := Int.toNat_natCast i
  rw [hT, dD, dB]
  refine ⟨⟨by omega, by omega⟩, ⟨⟨by omega, by omega⟩, ?_⟩, fun _ _ => ⟨⟨⟨by omega, by omega⟩, ?_⟩, fun s7 hs => ?_⟩⟩
  · refine cnd_intro (fun h => ?_) (fun h => ?_)
    · refine ⟨(), trivial, ⟨?_, trivial⟩, ⟨rfl, rfl, rfl, rfl, trivial⟩, trivial⟩
      have h : hasM L (l.getD i ansD).t = false := by simpa only [beq_iff_eq] using h
      have e : toldM L D (l.getD i ansD).t = getM D (l.getD i ansD).t false := by unfold toldM; rw [h]; rfl
      rw [e]
    · refine ⟨(), trivial, ⟨?_, trivial⟩, ⟨rfl, rfl, rfl, rfl, trivial⟩, trivial⟩
      have h : hasM L (l.getD i ansD).t = true := by cases h' : hasM L (l.getD i ansD).t with
        | true => rfl
        | false => rw [h'] at h; cases h
      have e : toldM L D (l.getD i ansD).t = true := by unfold toldM; rw [h]; rfl
      rw [e]
  · repeat' first
      | exact leafT ⟨.inl ⟨rfl, rfl⟩⟩
      | refine leafT ?_
      | refine cnd_intro (fun _ => ?_) (fun _ => ?_)
      | refine And.intro (And.intro (by omega) (by omega)) ?_
      | refine And.intro (And.intro (by omega) (of_decide_eq_true (by assumption))) ?_
      | refine And.intro (by omega) ?_
    all_goals first
      | (refine ⟨.inr (.inl ⟨rfl, ?_, ?_, rfl, rfl⟩)⟩ <;> (simp_all [toldM]; done))
      | (refine ⟨.inr (.inr (.inl ⟨rfl, ?_, rfl, rfl⟩))⟩ <;> (simp_all; done))
      | (refine ⟨.inr (.inr (.inr ⟨rfl, ?_, ?_, ?_, rfl, rfl⟩))⟩ <;> (simp_all; done))
      | (exfalso; simp only [decide_eq_true_eq, bne_eq_false_iff_eq] at *; omega)
  have f := facts hd.nod hs
  have hd2 : ∀ v : Bool, (v = true → hasM L (l.getD i ansD).t = true ∧ hasM s7.2.1 (l.getD i ansD).t = false) → DeadInv l (i + 1) s7.2.1 s7.2.2 (V.set i v) := fun v hv => dead_next hd hi hs v hv
  have hlen := hd.len
  refine ⟨⟨by omega, by omega⟩, ?_, fun _ _ => ?_⟩
  · obtain ⟨f1, f2, f3, f4, f5, f6⟩ := f
    clear hd hs hd2 hd0 hs2 hd1 f5 f6
    repeat' first
      | exact leafU
      | refine cnd_intro (fun _ => ?_) (fun _ => ?_)
      | refine And.intro (And.intro (by omega) (by omega)) ?_
    all_goals exfalso
    all_goals simp_all
  have fin : ∀ v : Bool, DeadInv l (i + 1) s7.2.1 s7.2.2 (V.set i v) → ∀ j : Nat, j ≤ i + 1 → decide ((j : Int) ≤ (i : Int)) = true → j < i + 1 ∧ j < (V.set i v).length ∧ j < l.length := fun v _ j hj h => by
    have := of_decide_eq_true h
    rw [List.length_set]; omega
  refine cnd_intro (fun hw => ?_) (fun hw => ?_)
  · have hw : hasM L (l.getD i ansD).t = true := by simpa only [beq_iff_eq] using hw
    have hd3 := hd2 (!hasM s7.2.1 (l.getD i ansD).t) (fun h => ⟨hw, by simpa only [Bool.not_eq_true'] using h⟩)
    refine ⟨⟨by omega, by omega⟩, by omega, ⟨0, by omega, ⟨rfl, trivial⟩, ⟨rfl, rfl, rfl, rfl, trivial⟩, trivial⟩, fun j hj => cnd_intro (fun h => ?_) (fun h => ?_)⟩
    · obtain ⟨h1, h2, h3⟩ := fin _ hd3 j hj h
      rw [Int.toNat_natCast]
      refine ⟨⟨by omega, by omega⟩, h2, cnd_intro (fun hv => ⟨⟨by omega, by omega⟩, cnd_intro (fun hh => (dead_not hd3 h1 hv hh).elim) (fun _ => leafN h1 (by omega) (by omega))⟩) (fun _ => leafN h1 (by omega) (by omega))⟩
    · exact ⟨(i + 1, s7.2.1, s7.2.2, V.set i _), hd3, by dsimp only; omega, ⟨next_int hi (by omega), trivial⟩, ⟨rfl, rfl, rfl, rfl, trivial⟩, trivial⟩
  · have hd3 := hd2 false (fun h => by cases h)
    refine ⟨⟨by omega, by omega⟩, by omega, ⟨0, by omega, ⟨rfl, trivial⟩, ⟨rfl, rfl, rfl, rfl, trivial⟩, trivial⟩, fun j hj => cnd_intro (fun h => ?_) (fun h => ?_)⟩
    · obtain ⟨h1, h2, h3⟩ := fin _ hd3 j hj h
      rw [Int.toNat_natCast]
      refine ⟨⟨by omega, by omega⟩, h2, cnd_intro (fun hv => ⟨⟨by omega, by omega⟩, cnd_intro (fun hh => (dead_not hd3 h1 hv hh).elim) (fun _ => leafN h1 (by omega) (by omega))⟩) (fun _ => leafN h1 (by omega) (by omega))⟩
    · exact ⟨(i + 1, s7.2.1, s7.2.2, V.set i _), hd3, by dsimp only; omega, ⟨next_int hi (by omega), trivial⟩, ⟨rfl, rfl, rfl, rfl, trivial⟩, trivial⟩
end Go.Proofs.Ytbadejabphdkiaa
