/- The limits of the ideal pool's laws, as a contract; the table of IdealDead. No condition. -/
import Derived.Test.YtbadejabphdkiaaVc2
set_option linter.unusedVariables false
set_option linter.unusedSimpArgs false
set_option maxRecDepth 100000
namespace Go.Proofs.Ytbadejabphdkiaa
open Go Go.Ax

theorem getD_eq (l : List Ans) (i : Nat) (h : i < l.length) (d : Ans) : l.getD i d = l[i] := by
  simp [List.getD, h]
abbrev wr (n : Int) : Int := IntKind.wrap .i64 n
theorem wr_in {n : Int} (h : -9223372036854775808 ≤ n ∧ n ≤ 9223372036854775807) : wr n = n := IntWalk.i64_in n h
theorem next_int {i n : Nat} (h : i < n) (hn : n ≤ 1000000) : EqA (AVal.int IntKind.i64 (wr ((i : Int) + 1))) (AVal.int IntKind.i64 ((i + 1 : Nat) : Int)) := by
  have : wr ((i : Int) + 1) = ((i + 1 : Nat) : Int) := by rw [wr_in (by omega)]; omega
  rw [this]
theorem longL_cons (a : Ans) (l : List Ans) : longL (a :: l) = (decide (10 < a.read.length) || longL l) := rfl
theorem ok5 : GOk cx 5 (plain aAs cdB (fun _ => True) greatL) := plain_ok noΓ_ok Try.func5 (body_of (by kernel_rfl)) Try.call5 (fun l _ => ⟨specG l, 100, by
  have e := vc_great (fun q => q = greatL l) l
  rw [e]; clear e
  apply cnd_intro
  · intro h
    have h := of_decide_eq_true h
    have : 60 < l.length := by omega
    simp [greatL, this]
  · intro h
    have h := of_decide_eq_false h
    have hn : ¬ 60 < l.length := by omega
    have hg : greatL l = longL l := by simp [greatL, hn]
    refine ⟨⟨0, ⟨Nat.zero_le _, rfl⟩, ⟨rfl, trivial⟩, trivial, trivial⟩, fun s hs => ?_⟩
    obtain ⟨hs, hl⟩ := hs
    apply cnd_intro
    · intro h2
      have h2 := of_decide_eq_true h2
      have h2 : s < l.length := by omega
      refine ⟨by omega, ?_⟩
      have hd : l.drop s = l[s] :: l.drop (s + 1) := List.drop_eq_getElem_cons h2
      have hq : l.getD (Int.toNat (s : Int)) (K.dflt (tab 36)) = l[s] := getD_eq l s h2 _
      rw [hq]
      apply cnd_intro
      · intro h3
        have h3 := of_decide_eq_true h3
        show true = greatL l
        rw [hg, hl, hd, longL_cons, decide_eq_true (show 10 < l[s].read.length by omega)]; rfl
      · intro h3
        have h3 := of_decide_eq_false h3
        refine ⟨s + 1, ⟨h2, ?_⟩, by omega, ⟨next_int h2 (by omega), trivial⟩, trivial, trivial⟩
        rw [hl, hd, longL_cons, decide_eq_false (show ¬ 10 < l[s].read.length by omega)]; rfl
    · intro h2
      have h2 := of_decide_eq_false h2
      show false = greatL l
      rw [hg, hl, List.drop_eq_nil_of_le (by omega)]
      rfl⟩)
noncomputable def Γg : FuncId → Option (GSpec El) := addΓ (addΓ Γf 4 gYes) 5 (plain aAs cdB (fun _ => True) greatL)
theorem Γg_ok : ∀ f g, Γg f = some g → GOk cx f g := addΓ_ok (addΓ_ok Γf_ok ok4) ok5
end Go.Proofs.Ytbadejabphdkiaa
