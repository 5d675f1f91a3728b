/- A verified symbolic executor, part 22: a call whose one result is claimed, and owed. Over any program; no condition. -/
import Derived.Test.YtbadejabphdkiaaAx21
set_option linter.unusedVariables false
set_option linter.unusedSimpArgs false
namespace Go.Ax
variable {El : TypeId → Type}

/-- A contract with one claimed result; that it comes to this is owed where it is used. -/
def viewed (C : Bool → Prop → Prop → Prop) (g : GSpec El) (V : List (AVal El) → List (Res El) → Nat → Option (Eff El)) : GSpec El := fun args R base => match V args R base with
  | some y => .need ((g args R base).wp C fun y' => y' = y) (.leaf y)
  | none => g args R base
theorem viewed_ok {c : Cx El} {f : FuncId} {g : GSpec El} {V : List (AVal El) → List (Res El) → Nat → Option (Eff El)} (h : GOk c f g) : GOk c f (viewed cnd g V) := by
  refine ⟨h.enters, fun args R base y ho I E w vals hargs hr hfree => ?_⟩
  unfold viewed at ho
  split at ho
  · obtain ⟨hw, ho⟩ := ho
    simp only [Tree.Out] at ho; subst ho
    obtain ⟨y', h1, rfl⟩ := Tree.out_of_wp hw
    exact h.ok args R base y' h1 I E w vals hargs hr hfree
  · exact h.ok args R base y ho I E w vals hargs hr hfree
end Go.Ax
