/- The law of Same and Copy. No condition. -/
import Derived.Test.YtggaecdhgbdilaaVc6
set_option linter.unusedVariables false
set_option linter.unusedSimpArgs false
set_option maxRecDepth 100000
namespace Go.Proofs.Ytggaecdhgbdilaa
open Go Go.Ax

theorem same_told (x y : Wk) : aexecF cnd cx Γ6 (specSame3 x) 200 Try.f3 (codeOf Try.f3) (aWW.enc (x, y)) [] (fun y _ => y = .bool true) := by
  have e := vc_law3 (fun y => y = .bool true) x y
  refine Eq.mpr e ?_; clear e
  refine ⟨trivial, trivial, cnd_intro (fun hg => ?_) (fun _ => rfl)⟩
  have hg : greatW x = false := by simpa using hg
  refine ⟨trivial, cnd_intro (fun _ => rfl) (fun _ => ?_)⟩
  have hx := bear_self hg
  obtain ⟨b1, b2, b3, b4, b5, b6⟩ := bear_of hg
  refine ⟨hx, hx, cnd_intro (fun _ => ?_) (fun h => by simp at h)⟩
  refine ⟨hx, cnd_intro (fun h => by simp [sameW_self] at h) (fun _ => ?_)⟩
  refine ⟨hx, hx, hx, cnd_intro (fun h => by simp [sameW_self] at h) (fun _ => ?_)⟩
  have step : ∀ {i n : Nat}, (i : Int) < (n : Int) → n ≤ 40 → EqA (AVal.int IntKind.i64 (wr ((i : Int) + 1))) (AVal.int IntKind.i64 ((i + 1 : Nat) : Int)) := fun h hn => next_int h (by omega)
  refine ⟨⟨(0, x.rack), ⟨Nat.zero_le _, rfl⟩, ⟨rfl, trivial⟩, by repeat (first | exact trivial | exact rfl | apply And.intro), trivial⟩, ?_⟩
  rintro ⟨i1, m1⟩ ⟨g1, k1⟩
  dsimp only at g1 k1 ⊢
  refine cnd_intro (fun h => ?_) (fun _ => ?_)
  · have h := natlt h
    exact ⟨⟨by omega, h⟩, by omega, ⟨by omega, h⟩, by omega, (i1 + 1, m1.set (i1 : Int).toNat (IntKind.wrap IntKind.i64 (m1.getD (i1 : Int).toNat 0 + 1))), ⟨by omega, by rw [List.length_set]; exact k1⟩, by dsimp only; omega, ⟨step h (by omega), trivial⟩, by repeat (first | exact trivial | exact rfl | apply And.intro), trivial⟩
  refine ⟨⟨(0, x.hold), ⟨Nat.zero_le _, rfl⟩, ⟨rfl, trivial⟩, by repeat (first | exact trivial | exact rfl | apply And.intro), trivial⟩, ?_⟩
  rintro ⟨i2, m2⟩ ⟨g2, k2⟩
  dsimp only at g2 k2 ⊢
  refine cnd_intro (fun h => ?_) (fun _ => ?_)
  · have h := natlt h
    exact ⟨⟨by omega, h⟩, by omega, ⟨by omega, h⟩, by omega, (i2 + 1, m2.set (i2 : Int).toNat (IntKind.wrap IntKind.i64 (m2.getD (i2 : Int).toNat 0 + 1))), ⟨by omega, by rw [List.length_set]; exact k2⟩, by dsimp only; omega, ⟨step h (by omega), trivial⟩, by repeat (first | exact trivial | exact rfl | apply And.intro), trivial⟩
  refine ⟨⟨(0, x.read), ⟨Nat.zero_le _, rfl⟩, ⟨rfl, trivial⟩, by repeat (first | exact trivial | exact rfl | apply And.intro), trivial⟩, ?_⟩
  rintro ⟨i3, m3⟩ ⟨g3, k3⟩
  dsimp only at g3 k3 ⊢
  refine cnd_intro (fun h => ?_) (fun _ => ?_)
  · have h := natlt h
    exact ⟨⟨by omega, h⟩, by omega, ⟨by omega, h⟩, by omega, (i3 + 1, m3.set (i3 : Int).toNat (IntKind.wrap IntKind.u64 (m3.getD (i3 : Int).toNat 0 + 1))), ⟨by omega, by rw [List.length_set]; exact k3⟩, by dsimp only; omega, ⟨step h (by omega), trivial⟩, by repeat (first | exact trivial | exact rfl | apply And.intro), trivial⟩
  refine ⟨⟨(0, x.l0), ⟨Nat.zero_le _, rfl⟩, ⟨rfl, trivial⟩, by repeat (first | exact trivial | exact rfl | apply And.intro), trivial⟩, ?_⟩
  rintro ⟨i4, m4⟩ ⟨g4, k4⟩
  dsimp only at g4 k4 ⊢
  refine cnd_intro (fun h => ?_) (fun _ => ?_)
  · have h := natlt h
    exact ⟨⟨by omega, h⟩, by omega, ⟨by omega, h⟩, by omega, (i4 + 1, m4.set (i4 : Int).toNat (IntKind.wrap IntKind.i64 (m4.getD (i4 : Int).toNat 0 + 1))), ⟨by omega, by rw [List.length_set]; exact k4⟩, by dsimp only; omega, ⟨step h (by omega), trivial⟩, by repeat (first | exact trivial | exact rfl | apply And.intro), trivial⟩
  refine ⟨⟨(0, x.l1), ⟨Nat.zero_le _, rfl⟩, ⟨rfl, trivial⟩, by repeat (first | exact trivial | exact rfl | apply And.intro), trivial⟩, ?_⟩
  rintro ⟨i5, m5⟩ ⟨g5, k5⟩
  dsimp only at g5 k5 ⊢
  refine cnd_intro (fun h => ?_) (fun _ => ?_)
  · have h := natlt h
    exact ⟨⟨by omega, h⟩, by omega, ⟨by omega, h⟩, by omega, (i5 + 1, m5.set (i5 : Int).toNat (IntKind.wrap IntKind.i64 (m5.getD (i5 : Int).toNat 0 + 1))), ⟨by omega, by rw [List.length_set]; exact k5⟩, by dsimp only; omega, ⟨step h (by omega), trivial⟩, by repeat (first | exact trivial | exact rfl | apply And.intro), trivial⟩
  refine ⟨⟨(0, x.l2), ⟨Nat.zero_le _, rfl⟩, ⟨rfl, trivial⟩, by repeat (first | exact trivial | exact rfl | apply And.intro), trivial⟩, ?_⟩
  rintro ⟨i6, m6⟩ ⟨g6, k6⟩
  dsimp only at g6 k6 ⊢
  refine cnd_intro (fun h => ?_) (fun _ => ?_)
  · have h := natlt h
    exact ⟨⟨by omega, h⟩, by omega, ⟨by omega, h⟩, by omega, (i6 + 1, m6.set (i6 : Int).toNat (IntKind.wrap IntKind.i64 (m6.getD (i6 : Int).toNat 0 + 1))), ⟨by omega, by rw [List.length_set]; exact k6⟩, by dsimp only; omega, ⟨step h (by omega), trivial⟩, by repeat (first | exact trivial | exact rfl | apply And.intro), trivial⟩
  refine ⟨hx, ?_⟩
  rw [sameW_self]
end Go.Proofs.Ytggaecdhgbdilaa
