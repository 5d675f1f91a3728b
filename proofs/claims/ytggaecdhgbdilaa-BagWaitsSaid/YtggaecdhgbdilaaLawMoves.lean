/- The law of the moves of blocks. No condition. -/
import Derived.Test.YtggaecdhgbdilaaVc5
set_option linter.unusedVariables false
set_option linter.unusedSimpArgs false
set_option maxRecDepth 100000
namespace Go.Proofs.Ytggaecdhgbdilaa
open Go Go.Ax

theorem awake_told : aexecF cnd cx ΓW noSpec 100 Try.f9 (codeOf Try.f9) [] [] (fun y _ => y = .bool true) := by
  have e := vc_awake (fun y => y = .bool true)
  rw [e]
  exact ⟨Nat.zero_le _, ⟨by decide, by decide⟩, ⟨by decide, by decide⟩, by decide, ⟨by decide, by decide, by decide⟩, rfl⟩
theorem sameW_self (x : Wk) : sameW x x = true := (sameW_iff x x).2 rfl
theorem bear_of {x : Wk} (h : greatW x = false) : x.rack.length ≤ 40 ∧ x.hold.length ≤ 40 ∧ x.read.length ≤ 40 ∧ x.l0.length ≤ 40 ∧ x.l1.length ≤ 40 ∧ x.l2.length ≤ 40 := by
  have := of_decide_eq_false h
  omega
theorem bear_put {y : Cfg × Wk × Int} (h : greatW y.2.1 = false) : Bear (putW y).1 := by
  obtain ⟨h1, h2, h3, h4, h5, h6⟩ := bear_of h
  unfold putW
  split
  · exact ⟨by unfold small; dsimp only; omega, by unfold small; dsimp only; omega, by unfold small; dsimp only; omega, by unfold small; dsimp only; omega, by unfold small; dsimp only; omega, by unfold small; dsimp only; omega⟩
  · exact ⟨by unfold small; simp only [List.length_append, List.length_cons, List.length_nil, List.length_take, List.length_drop]; omega, by unfold small; simp only [List.length_append, List.length_cons, List.length_nil, List.length_take, List.length_drop]; omega, by unfold small; simp only [List.length_append, List.length_cons, List.length_nil, List.length_take, List.length_drop]; omega, by unfold small; simp only [List.length_append, List.length_cons, List.length_nil, List.length_take, List.length_drop]; omega, by unfold small; simp only [List.length_append, List.length_cons, List.length_nil, List.length_take, List.length_drop]; omega, by unfold small; simp only [List.length_append, List.length_cons, List.length_nil, List.length_take, List.length_drop]; omega⟩
theorem bear_take {x : Wk} (h : greatW x = false) : Bear (takeW x).1 := by
  obtain ⟨h1, h2, h3, h4, h5, h6⟩ := bear_of h
  unfold takeW
  split
  · exact ⟨by unfold small; dsimp only; omega, by unfold small; dsimp only; omega, by unfold small; dsimp only; omega, by unfold small; dsimp only; omega, by unfold small; dsimp only; omega, by unfold small; dsimp only; omega⟩
  · exact ⟨by unfold small; simp only [List.length_append, List.length_cons, List.length_nil, List.length_take, List.length_drop]; omega, by unfold small; simp only [List.length_append, List.length_cons, List.length_nil, List.length_take, List.length_drop]; omega, by unfold small; simp only [List.length_append, List.length_cons, List.length_nil, List.length_take, List.length_drop]; omega, by unfold small; simp only [List.length_append, List.length_cons, List.length_nil, List.length_take, List.length_drop]; omega, by unfold small; simp only [List.length_append, List.length_cons, List.length_nil, List.length_take, List.length_drop]; omega, by unfold small; simp only [List.length_append, List.length_cons, List.length_nil, List.length_take, List.length_drop]; omega⟩
theorem bear_next {x : Wk} (h : greatW x = false) : Bear (nextW x).1 := by
  obtain ⟨h1, h2, h3, h4, h5, h6⟩ := bear_of h
  unfold nextW
  split
  · exact ⟨by unfold small; dsimp only; omega, by unfold small; dsimp only; omega, by unfold small; dsimp only; omega, by unfold small; dsimp only; omega, by unfold small; dsimp only; omega, by unfold small; dsimp only; omega⟩
  · exact ⟨by unfold small; simp only [List.length_append, List.length_cons, List.length_nil, List.length_take, List.length_drop]; omega, by unfold small; simp only [List.length_append, List.length_cons, List.length_nil, List.length_take, List.length_drop]; omega, by unfold small; simp only [List.length_append, List.length_cons, List.length_nil, List.length_take, List.length_drop]; omega, by unfold small; simp only [List.length_append, List.length_cons, List.length_nil, List.length_take, List.length_drop]; omega, by unfold small; simp only [List.length_append, List.length_cons, List.length_nil, List.length_take, List.length_drop]; omega, by unfold small; simp only [List.length_append, List.length_cons, List.length_nil, List.length_take, List.length_drop]; omega⟩
theorem bear_hold {x : Wk} {l : List Int} (h : greatW x = false) (hl : l.length ≤ 40) : Bear { x with hold := x.hold ++ l } := by
  obtain ⟨h1, h2, h3, h4, h5, h6⟩ := bear_of h
  exact ⟨by unfold small; simp only [List.length_append, List.length_cons, List.length_nil, List.length_take, List.length_drop]; omega, by unfold small; simp only [List.length_append, List.length_cons, List.length_nil, List.length_take, List.length_drop]; omega, by unfold small; simp only [List.length_append, List.length_cons, List.length_nil, List.length_take, List.length_drop]; omega, by unfold small; simp only [List.length_append, List.length_cons, List.length_nil, List.length_take, List.length_drop]; omega, by unfold small; simp only [List.length_append, List.length_cons, List.length_nil, List.length_take, List.length_drop]; omega, by unfold small; simp only [List.length_append, List.length_cons, List.length_nil, List.length_take, List.length_drop]; omega⟩
theorem bear_self {x : Wk} (h : greatW x = false) : Bear x := by
  obtain ⟨h1, h2, h3, h4, h5, h6⟩ := bear_of h
  exact ⟨by unfold small; omega, by unfold small; omega, by unfold small; omega, by unfold small; omega, by unfold small; omega, by unfold small; omega⟩

theorem moves_told (c : Cfg) (x : Wk) (b : Int) (l : List Int) : aexecF cnd cx Γ6 noSpec 200 Try.f4 (codeOf Try.f4) (aMoves.enc (c, x, b, l)) [] (fun y _ => y = .bool true) := by
  have e := vc_moves (fun y => y = .bool true) c x b l
  rw [e]; clear e
  refine ⟨trivial, trivial, cnd_intro (fun hg => ?_) (fun _ => rfl)⟩
  have hg : greatW x = false := by simpa using hg
  refine cnd_intro (fun _ => rfl) (fun hl => ?_)
  have hl : l.length ≤ 40 := by have := of_decide_eq_false hl; omega
  have hs : small l := by unfold small; omega
  have hx := bear_self hg
  refine ⟨hx, hx, hx, hx, hx, ⟨hx, hs⟩, ⟨hx, hs⟩, ⟨hx, hs⟩, ⟨hx, hs⟩, hx, hx, ?_⟩
  refine cnd_intro (fun _ => ?_) (fun h => by simp at h)
  refine cnd_intro (fun _ => ?_) (fun h => by simp at h)
  refine cnd_intro (fun _ => ?_) (fun h => by simp at h)
  refine ⟨bear_put hg, cnd_intro (fun _ => ?_) (fun h => by simp [sameW_self] at h)⟩
  refine ⟨bear_take hg, cnd_intro (fun _ => ?_) (fun h => by simp [sameW_self] at h)⟩
  refine ⟨bear_hold hg hl, cnd_intro (fun _ => ?_) (fun h => by simp [sameW_self] at h)⟩
  refine ⟨bear_next hg, cnd_intro (fun h => by simp [sameW_self] at h) (fun _ => ?_)⟩
  refine ⟨bear_take hg, ⟨bear_next hg, by unfold small; simp⟩, hx, cnd_intro (fun _ => ?_) (fun h => by simp [sameW_self] at h)⟩
  refine ⟨bear_put hg, cnd_intro (fun _ => ?_) (fun h => by simp [sameW_self] at h)⟩
  refine ⟨bear_hold hg hl, ?_⟩
  rw [sameW_self]
theorem ok9 : GOk cx 9 gYes := tell_ctr ΓW_ok Try.func9 (body_of (by kernel_rfl)) Try.call9 (n := 100) (fun x _ => by
  have h := awake_told
  have e1 : (fun (y : AVal El) (R : List (Res El)) => y = AVal.bool true ∧ matchR R []) = fun y _ => y = AVal.bool true := by funext y R; simp [matchR]
  show aexecF cnd cx ΓW noSpec 100 Try.f9 (codeOf Try.f9) [] [] (fun (y : AVal El) (R : List (Res El)) => y = AVal.bool true ∧ matchR R [])
  rw [e1]; exact h)
theorem Γ6_ok : ∀ f g, Γ6 f = some g → GOk cx f g := addΓ_ok Γ5_ok ok9
end Go.Proofs.Ytggaecdhgbdilaa
