/- The law of the room of a bucket. No condition. -/
import Derived.Test.YtggaecdhgbdilaaVc12
set_option linter.unusedVariables false
set_option linter.unusedSimpArgs false
set_option maxRecDepth 100000
namespace Go.Proofs.Ytggaecdhgbdilaa
open Go Go.Ax

theorem at_set (x : Wk) (i t : Int) (l : List Int) : bagT (setBag x i t l) i = t ∧ bagL (setBag x i t l) i = l := by
  unfold bagT bagL setBag
  by_cases h0 : i = 0
  · simp [h0]
  · by_cases h1 : i = 1
    · simp [h1]
    · simp [h0, h1]
theorem hold_set (x : Wk) (i t : Int) (l : List Int) : (setBag x i t l).hold = x.hold := by
  unfold setBag; split
  · rfl
  · split <;> rfl
theorem tag_of_e {x y : Wk} (h : y.e = x.e) : tagW y = tagW x ∧ idxW y = idxW x := by
  have : tagW y = tagW x := by unfold tagW; rw [h]
  exact ⟨this, by unfold idxW; rw [this]⟩
theorem room_easy {c : Cfg} {i : Nat} {x : Wk} (h : RoomInv c i x) : Easy x := by
  have := h.sum
  have hs := h.small
  refine ⟨by rw [h.rack]; simp [small], by rw [h.read]; simp [small], ?_⟩
  show sumW x ≤ _
  omega
theorem room_put {c : Cfg} {i : Nat} {x : Wk} (h : RoomInv c i x) : bagPut (c, x, (i : Int)) = if (i : Int) < c.a then (setBag x (idxW x) (tagW x) (bagL x (idxW x) ++ [(i : Int)]), true) else (x, false) := by
  have hn : nowX x = x := by unfold nowX; rw [if_pos h.tag]
  have hl := h.len
  unfold bagPut
  dsimp only
  rw [hn]
  by_cases hc : (i : Int) < c.a
  · rw [if_pos (by omega), if_pos hc]
  · rw [if_neg (by omega), if_neg hc]
theorem room_next {c : Cfg} {i : Nat} {x : Wk} (h : RoomInv c i x) (hi : i < 20) : RoomInv c (i + 1) (bagPut (c, x, (i : Int))).1 := by
  rw [room_put h]
  have hl := h.len
  have hs := h.sum
  split
  · rename_i hc
    obtain ⟨a1, a2, a3⟩ := rr_set x (idxW x) (tagW x) (bagL x (idxW x) ++ [(i : Int)])
    obtain ⟨b1, b2⟩ := tag_of_e a3
    obtain ⟨c1, c2⟩ := at_set x (idxW x) (tagW x) (bagL x (idxW x) ++ [(i : Int)])
    refine ⟨by omega, a1.trans h.rack, a2.trans h.read, (hold_set ..).trans h.hold, ?_, ?_, ?_⟩
    · dsimp only; rw [b1, b2, c1]
    · dsimp only; rw [b2, c2, List.length_append, hl]; simp; omega
    · dsimp only; rw [sum_add, hs]; omega
  · rename_i hc
    refine ⟨by omega, h.rack, h.read, h.hold, h.tag, ?_, ?_⟩
    · dsimp only; omega
    · dsimp only; omega
theorem count_sum (x : Wk) (h : x.hold = []) : countW x = (sumW x : Int) := by unfold countW sumW; rw [h]; simp
theorem room_told (c : Cfg) (e m : Int) : aexecF cnd cx ΓB (specRoom c) 200 Try.f7 (codeOf Try.f7) (aRoomL.enc (c, e, m)) [] (fun y _ => y = .bool true) := by
  have e0 := vc_lroom (fun y => y = .bool true) c e m
  refine Eq.mpr e0 ?_; clear e0
  refine ⟨trivial, ⟨(0, ⟨0, ⟨0, 0, 0, 0, false, 0, 0⟩, false, e, [], IntKind.wrap .u64 (e + 1), [], IntKind.wrap .u64 (e + 1), [], IntKind.wrap .u64 (e + 1), [], [], 0, 0, 0, 0, 0, 0, 0, 0, 0, 0, 0, [], 0, 0, false⟩), ?_, ⟨rfl, trivial⟩, by repeat (first | exact trivial | exact rfl | apply And.intro), trivial⟩, ?_⟩
  · refine ⟨Nat.zero_le _, rfl, rfl, rfl, ?_, ?_, ?_⟩
    · unfold bagT
      split
      · rfl
      · split <;> rfl
    · unfold bagL
      simp
    · simp [sumW]
  rintro ⟨i, x⟩ h
  dsimp only at h ⊢
  refine ⟨by decide, cnd_intro (fun hi => ?_) (fun _ => rfl)⟩
  have hi : (i : Int) < Int.tmod (IntKind.wrap IntKind.i64 m) 20 := of_decide_eq_true hi
  have hi20 : i < 20 := by
    have := Int.tmod_lt_of_pos (IntKind.wrap IntKind.i64 m) (show (0 : Int) < 20 by decide)
    omega
  have hx := room_easy h
  have hn := room_next h hi20
  have hy := room_easy hn
  have hp := room_put h
  have cx := count_sum x h.hold
  have cy := count_sum _ hn.hold
  have w1 : IntKind.wrap IntKind.i64 ((i : Int) + 1) = (i : Int) + 1 := wr_in (by omega)
  have hh : (bagPut (c, x, (i : Int))).1.hold = [] := hn.hold
  have ok : (bagPut (c, x, (i : Int))).2 = decide ((i : Int) < c.a) := by rw [hp]; split <;> simp_all
  refine ⟨hx, ?_⟩
  rw [ok, w1]
  have s1 := h.sum
  have s2 := hn.sum
  by_cases hc : (i : Int) < c.a
  · rw [decide_eq_true hc]
    refine cnd_intro (fun _ => ?_) (fun h => by simp at h)
    refine cnd_intro (fun _ => ?_) (fun h => by simp at h)
    have c1 : countW (bagPut (c, x, (i : Int))).1 = (i : Int) + 1 := by rw [cy, s2]; omega
    rw [c1]
    refine ⟨hy, cnd_intro (fun _ => ?_) (fun h => by simp at h)⟩
    refine cnd_intro (fun h => by simp at h) (fun _ => ?_)
    exact cnd_intro (fun h => by rw [hh] at h; simp at h) (fun _ => ⟨(i + 1, (bagPut (c, x, (i : Int))).1), hn, by dsimp only; omega, ⟨congrArg (AVal.int IntKind.i64) (by dsimp only; omega), trivial⟩, by repeat (first | exact trivial | exact rfl | apply And.intro), trivial⟩)
  · rw [decide_eq_false hc]
    refine cnd_intro (fun _ => ?_) (fun h => by simp at h)
    refine cnd_intro (fun h => by simp at h) (fun _ => ?_)
    refine cnd_intro (fun _ => ?_) (fun h => by simp at h)
    have c1 : countW (bagPut (c, x, (i : Int))).1 = countW x := by rw [cy, s2, cx, s1]; omega
    rw [c1]
    refine ⟨hy, hx, cnd_intro (fun _ => ?_) (fun h => by simp at h)⟩
    exact cnd_intro (fun h => by rw [hh] at h; simp at h) (fun _ => ⟨(i + 1, (bagPut (c, x, (i : Int))).1), hn, by dsimp only; omega, ⟨congrArg (AVal.int IntKind.i64) (by dsimp only; omega), trivial⟩, by repeat (first | exact trivial | exact rfl | apply And.intro), trivial⟩)
end Go.Proofs.Ytggaecdhgbdilaa
