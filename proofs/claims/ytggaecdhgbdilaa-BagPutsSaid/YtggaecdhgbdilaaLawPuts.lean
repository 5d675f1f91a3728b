/- The law of the buckets, for an arbitrary state. No condition. -/
import Derived.Test.YtggaecdhgbdilaaVc10
import Derived.Test.YtggaecdhgbdilaaVc11
set_option linter.unusedVariables false
set_option linter.unusedSimpArgs false
set_option maxRecDepth 100000
namespace Go.Proofs.Ytggaecdhgbdilaa
open Go Go.Ax

theorem bawake_told : aexecF cnd cx Γ9 noSpec 100 Try.f23 (codeOf Try.f23) [] [] (fun y _ => y = .bool true) := by
  have e := vc_bawake (fun y => y = .bool true)
  rw [e]; clear e
  refine ⟨?_, ?_, ?_, ?_, ?_, rfl⟩ <;> exact ⟨by unfold small; decide +kernel, by unfold small; decide +kernel, by decide +kernel⟩
theorem ok23 : GOk cx 23 gYes := tell_ctr Γ9_ok Try.func23 (body_of (by kernel_rfl)) Try.call23 (n := 100) (fun x _ => by
  have h := bawake_told
  have e1 : (fun (y : AVal El) (R : List (Res El)) => y = AVal.bool true ∧ matchR R []) = fun y _ => y = AVal.bool true := by funext y R; simp [matchR]
  show aexecF cnd cx Γ9 noSpec 100 Try.f23 (codeOf Try.f23) [] [] (fun (y : AVal El) (R : List (Res El)) => y = AVal.bool true ∧ matchR R [])
  rw [e1]; exact h)
theorem ΓB_ok : ∀ f g, ΓB f = some g → GOk cx f g := addΓ_ok Γ9_ok ok23
def sumW (x : Wk) : Nat := x.hold.length + x.l0.length + x.l1.length + x.l2.length
theorem rr_set (x : Wk) (i t : Int) (l : List Int) : (setBag x i t l).rack = x.rack ∧ (setBag x i t l).read = x.read ∧ (setBag x i t l).e = x.e := by
  unfold setBag; split
  · exact ⟨rfl, rfl, rfl⟩
  · split <;> exact ⟨rfl, rfl, rfl⟩
theorem rr_now (x : Wk) : (nowX x).rack = x.rack ∧ (nowX x).read = x.read := by
  unfold nowX; split
  · exact ⟨rfl, rfl⟩
  · obtain ⟨h1, h2, _⟩ := rr_set (holdW (x, bagL x (idxW x))) (idxW x) (tagW x) []; exact ⟨h1, h2⟩
theorem sum_move (x : Wk) (i t : Int) : sumW (setBag (holdW (x, bagL x i)) i t []) = sumW x := by
  unfold sumW setBag holdW bagL
  split
  · simp
  · split
    · simp only [List.length_append, List.length_nil]; omega
    · simp only [List.length_append, List.length_nil]; omega
theorem sum_now (x : Wk) : sumW (nowX x) = sumW x := by
  unfold nowX; split
  · rfl
  · exact sum_move ..
theorem sum_add (x : Wk) (i t b : Int) : sumW (setBag x i t (bagL x i ++ [b])) = sumW x + 1 := by
  unfold sumW setBag bagL
  split
  · simp only [List.length_append, List.length_cons, List.length_nil]; omega
  · split <;> simp only [List.length_append, List.length_cons, List.length_nil] <;> omega
theorem sum_put (y : Cfg × Wk × Int) : sumW (bagPut y).1 ≤ sumW y.2.1 + 1 := by
  unfold bagPut; split
  · show sumW (setBag _ _ _ _) ≤ _
    rw [sum_add, sum_now]; exact Nat.le_refl _
  · show sumW (nowX _) ≤ _
    rw [sum_now]; omega
theorem rr_put (y : Cfg × Wk × Int) : (bagPut y).1.rack = y.2.1.rack ∧ (bagPut y).1.read = y.2.1.read := by
  unfold bagPut; split
  · obtain ⟨h1, h2, _⟩ := rr_set (nowX y.2.1) (idxW y.2.1) (tagW y.2.1) (bagL (nowX y.2.1) (idxW y.2.1) ++ [y.2.2])
    obtain ⟨h3, h4⟩ := rr_now y.2.1
    exact ⟨h1.trans h3, h2.trans h4⟩
  · exact rr_now _
theorem sum_ripe1 (x : Wk) (i ep : Int) : sumW (ripe1 x i ep) = sumW x := by
  unfold ripe1; split
  · exact sum_move ..
  · rfl
theorem rr_ripe1 (x : Wk) (i ep : Int) : (ripe1 x i ep).rack = x.rack ∧ (ripe1 x i ep).read = x.read := by
  unfold ripe1; split
  · obtain ⟨h1, h2, _⟩ := rr_set (holdW (x, bagL x i)) i 0 []; exact ⟨h1, h2⟩
  · exact ⟨rfl, rfl⟩
theorem easy_ripe {x : Wk} (h : Easy x) (ep : Int) : Easy (ripeW (x, ep)) := by
  obtain ⟨a1, b1⟩ := rr_ripe1 x 0 ep
  obtain ⟨a2, b2⟩ := rr_ripe1 (ripe1 x 0 ep) 1 ep
  obtain ⟨a3, b3⟩ := rr_ripe1 (ripe1 (ripe1 x 0 ep) 1 ep) 2 ep
  refine ⟨?_, ?_, ?_⟩
  · show small (ripe1 (ripe1 (ripe1 x 0 ep) 1 ep) 2 ep).rack
    rw [a3, a2, a1]; exact h.rack
  · show small (ripe1 (ripe1 (ripe1 x 0 ep) 1 ep) 2 ep).read
    rw [b3, b2, b1]; exact h.read
  · show sumW (ripe1 (ripe1 (ripe1 x 0 ep) 1 ep) 2 ep) ≤ _
    rw [sum_ripe1, sum_ripe1, sum_ripe1]; exact h.sum
theorem easy_put {c : Cfg} {x : Wk} {b : Int} (h : Easy x) (hs : sumW x < 100000) : Easy (bagPut (c, x, b)).1 := by
  obtain ⟨a1, b1⟩ := rr_put (c, x, b)
  refine ⟨by rw [a1]; exact h.rack, by rw [b1]; exact h.read, ?_⟩
  have := sum_put (c, x, b)
  show sumW (bagPut (c, x, b)).1 ≤ _
  dsimp only at this; omega
theorem easy_of {x : Wk} (h : greatW x = false) : Easy x ∧ sumW x ≤ 160 := by
  obtain ⟨b1, b2, b3, b4, b5, b6⟩ := bear_of h
  exact ⟨⟨by unfold small; omega, by unfold small; omega, by omega⟩, by unfold sumW; omega⟩
theorem has_step {l : List Int} {k : Nat} (h : k < l.length) (b : Int) : hasS (l.take (k + 1)) b = (hasS (l.take k) b || (b == l[k])) := by
  rw [List.take_succ_eq_append_getElem h]; unfold hasS; rw [List.any_append]; simp only [List.any_cons, List.any_nil, Bool.or_false]
theorem found_step {w : Bool} {l : List Int} {k : Nat} {b : Int} (h : (k : Int) < (l.length : Int)) (hw : ((w || hasS (l.take k) b) == false) = true) : (l.getD (k : Int).toNat 0 == b) = (w || hasS (l.take (k + 1)) b) := by
  have hk : k < l.length := by omega
  rw [has_step hk, get_int hk]
  have hw : w = false ∧ hasS (l.take k) b = false := by simpa using hw
  rw [hw.1, hw.2, Bool.false_or, Bool.false_or]
  exact Bool.beq_comm
theorem found_stay {w : Bool} {l : List Int} {k : Nat} {b : Int} (h : (k : Int) < (l.length : Int)) (hw : ((w || hasS (l.take k) b) == false) = false) : true = (w || hasS (l.take (k + 1)) b) := by
  have hk : k < l.length := by omega
  rw [has_step hk]
  cases w with
  | true => rfl
  | false =>
    have hw : hasS (l.take k) b = true := by simpa using hw
    simp [hw]
theorem found_next (w v : Bool) (l : List Int) (b : Int) (h : w = v) : w = (v || hasS (l.take 0) b) := by rw [h]; simp [hasS]
theorem puts_told (c : Cfg) (x : Wk) (b ep : Int) : aexecF cnd cx ΓB (specPuts x b) 200 Try.f8 (codeOf Try.f8) (aPuts.enc (c, x, b, ep)) [] (fun y _ => y = .bool true) := by
  have e := vc_puts (fun y => y = .bool true) c x b ep
  refine Eq.mpr e ?_; clear e
  refine ⟨trivial, trivial, cnd_intro (fun _ => rfl) (fun hg => ?_)⟩
  obtain ⟨hx, hs⟩ := easy_of hg
  have hp : Easy (bagPut (c, x, b)).1 := easy_put hx (by omega)
  refine ⟨easy_bear hx, hx, hx, hx, hx, hx, ?_⟩
  refine cnd_intro (fun _ => ?_) (fun h => by simp at h)
  refine cnd_intro (fun _ => ?_) (fun h => by simp at h)
  refine ⟨easy_bear (nowX_easy hx), cnd_intro (fun _ => ?_) (fun h => by simp [sameW_self] at h)⟩
  refine ⟨easy_bear hp, cnd_intro (fun _ => ?_) (fun h => by simp [sameW_self] at h)⟩
  refine ⟨hx, easy_bear (easy_ripe hx ep), cnd_intro (fun h => by simp [sameW_self] at h) (fun _ => ?_)⟩
  have L0 : x.l0.length ≤ 40 := (bear_of hg).2.2.2.1
  have L1 : x.l1.length ≤ 40 := (bear_of hg).2.2.2.2.1
  have L2 : x.l2.length ≤ 40 := (bear_of hg).2.2.2.2.2
  refine ⟨⟨0, Nat.zero_le _, ⟨congrArg AVal.bool (found_next false false x.l0 b rfl), rfl, trivial⟩, by repeat (first | exact trivial | exact rfl | apply And.intro), trivial⟩, ?_⟩
  intro k0 hk0
  refine cnd_intro (fun h => ?_) (fun h => ?_)
  · have h := natlt h
    refine cnd_intro (fun hw => ?_) (fun hw => ?_)
    · exact ⟨⟨by omega, h⟩, k0 + 1, by omega, by omega, ⟨congrArg AVal.bool (found_step h hw), next_int h (by omega), trivial⟩, by repeat (first | exact trivial | exact rfl | apply And.intro), trivial⟩
    · exact ⟨k0 + 1, by omega, by omega, ⟨congrArg AVal.bool (found_stay h hw), next_int h (by omega), trivial⟩, by repeat (first | exact trivial | exact rfl | apply And.intro), trivial⟩
  have h := natge h
  have e0 : x.l0.take k0 = x.l0 := List.take_of_length_le (by omega)
  rw [e0]
  refine ⟨⟨0, Nat.zero_le _, ⟨congrArg AVal.bool (found_next _ _ x.l1 b (Bool.false_or _)), rfl, trivial⟩, by repeat (first | exact trivial | exact rfl | apply And.intro), trivial⟩, ?_⟩
  intro k1 hk1
  refine cnd_intro (fun h => ?_) (fun h => ?_)
  · have h := natlt h
    refine cnd_intro (fun hw => ?_) (fun hw => ?_)
    · exact ⟨⟨by omega, h⟩, k1 + 1, by omega, by omega, ⟨congrArg AVal.bool (found_step h hw), next_int h (by omega), trivial⟩, by repeat (first | exact trivial | exact rfl | apply And.intro), trivial⟩
    · exact ⟨k1 + 1, by omega, by omega, ⟨congrArg AVal.bool (found_stay h hw), next_int h (by omega), trivial⟩, by repeat (first | exact trivial | exact rfl | apply And.intro), trivial⟩
  have h := natge h
  have e1 : x.l1.take k1 = x.l1 := List.take_of_length_le (by omega)
  rw [e1]
  refine ⟨⟨0, Nat.zero_le _, ⟨congrArg AVal.bool (found_next _ _ x.l2 b rfl), rfl, trivial⟩, by repeat (first | exact trivial | exact rfl | apply And.intro), trivial⟩, ?_⟩
  intro k2 hk2
  refine cnd_intro (fun h => ?_) (fun h => ?_)
  · have h := natlt h
    refine cnd_intro (fun hw => ?_) (fun hw => ?_)
    · exact ⟨⟨by omega, h⟩, k2 + 1, by omega, by omega, ⟨congrArg AVal.bool (found_step h hw), next_int h (by omega), trivial⟩, by repeat (first | exact trivial | exact rfl | apply And.intro), trivial⟩
    · exact ⟨k2 + 1, by omega, by omega, ⟨congrArg AVal.bool (found_stay h hw), next_int h (by omega), trivial⟩, by repeat (first | exact trivial | exact rfl | apply And.intro), trivial⟩
  have h := natge h
  have e2 : x.l2.take k2 = x.l2 := List.take_of_length_le (by omega)
  rw [e2]
  have hc : wr (wr (wr (0 + (x.l0.length : Int)) + (x.l1.length : Int)) + (x.l2.length : Int)) = countW x := by
    unfold countW
    rw [wr_in (n := 0 + (x.l0.length : Int)) (by omega), wr_in (n := 0 + (x.l0.length : Int) + (x.l1.length : Int)) (by omega), wr_in (by omega)]
    omega
  refine ⟨hx, cnd_intro (fun _ => ?_) (fun h => ?_)⟩
  · refine ⟨hx, cnd_intro (fun _ => ?_) (fun h => by simp [waitsW] at h)⟩
    refine ⟨easy_bear hx, cnd_intro (fun _ => ?_) (fun h => by simp [sameW_self] at h)⟩
    refine ⟨easy_bear (nowX_easy hx), ?_⟩
    rw [sameW_self]
  · have h1 : (countW x == wr (wr (wr (0 + (x.l0.length : Int)) + (x.l1.length : Int)) + (x.l2.length : Int))) = true := by rw [hc]; simp
    have h2 : ((countW x == wr (wr (wr (0 + (x.l0.length : Int)) + (x.l1.length : Int)) + (x.l2.length : Int))) == true) = false := h
    rw [h1] at h2; cases h2
end Go.Proofs.Ytggaecdhgbdilaa
