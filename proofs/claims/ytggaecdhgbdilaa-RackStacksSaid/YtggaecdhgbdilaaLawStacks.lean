/- The law of the rack and the hold list. No condition. -/
import Derived.Test.YtggaecdhgbdilaaVc7
set_option linter.unusedVariables false
set_option linter.unusedSimpArgs false
set_option maxRecDepth 100000
namespace Go.Proofs.Ytggaecdhgbdilaa
open Go Go.Ax

theorem bear_rh {r h : List Int} (hr : small r) (hh : small h) : Bear (wkRH r h) := ⟨hr, hh, by simp [small, wkRH], by simp [small, wkRH], by simp [small, wkRH], by simp [small, wkRH]⟩
theorem put_rh (c : Cfg) (r h : List Int) (b : Int) : putW (c, Wk.mk 0 ⟨0, 0, 0, 0, false, 0, 0⟩ false 0 r 0 [] 0 [] 0 [] h 0 0 0 0 0 0 0 0 0 0 0 [] 0 0 false, b) = if c.r ≤ (r.length : Int) then (wkRH r h, false) else (wkRH (r ++ [b]) h, true) := rfl
theorem take_rh (r h : List Int) : takeW (Wk.mk 0 ⟨0, 0, 0, 0, false, 0, 0⟩ false 0 r 0 [] 0 [] 0 [] h 0 0 0 0 0 0 0 0 0 0 0 [] 0 0 false) = if r.length = 0 then (wkRH r h, -1) else (wkRH (r.take (r.length - 1)) h, r.getD (r.length - 1) 0) := rfl
theorem next_rh (r h : List Int) : nextW (Wk.mk 0 ⟨0, 0, 0, 0, false, 0, 0⟩ false 0 r 0 [] 0 [] 0 [] h 0 0 0 0 0 0 0 0 0 0 0 [] 0 0 false) = if h.length = 0 then (wkRH r h, -1) else (wkRH r (h.drop 1), h.getD 0 0) := rfl
theorem stacks_told (c : Cfg) (l : List Int) : aexecF cnd cx Γ6 (specStacks c l) 200 Try.f5 (codeOf Try.f5) (aStacks.enc (c, l)) [] (fun y _ => y = .bool true) := by
  have e := vc_stacks (fun y => y = .bool true) c l
  refine Eq.mpr e ?_; clear e
  refine ⟨trivial, cnd_intro (fun _ => rfl) (fun hl => ?_)⟩
  have hl : l.length ≤ 40 := by have := of_decide_eq_false hl; omega
  have tk : ∀ i : Nat, small (l.take i) := fun i => by unfold small; rw [List.length_take]; omega
  have dp : ∀ i : Nat, small (l.drop i) := fun i => by unfold small; rw [List.length_drop]; omega
  have nl : small ([] : List Int) := by simp [small]
  refine ⟨⟨0, Nat.zero_le _, ⟨rfl, rfl, trivial⟩, by repeat (first | exact trivial | exact rfl | apply And.intro), trivial⟩, ?_⟩
  intro i hi
  have hb : Bear (wkRH (l.take (min i c.r.toNat)) []) := bear_rh (tk _) nl
  refine cnd_intro (fun h => ?_) (fun h => ?_)
  · have h := natlt h
    refine ⟨⟨by omega, h⟩, hb, ⟨by omega, h⟩, hb, ?_⟩
    simp only [put_rh]
    have lt : (l.take (min i c.r.toNat)).length = min i c.r.toNat := by rw [List.length_take]; omega
    rw [lt]
    by_cases hk : (i : Int) < c.r
    · have hm : min i c.r.toNat = i := by omega
      have hm' : min (i + 1) c.r.toNat = i + 1 := by omega
      rw [hm, if_neg (by omega), decide_eq_true hk]
      refine cnd_intro (fun h => by simp at h) (fun _ => ?_)
      refine cnd_intro (fun _ => ?_) (fun h => by simp at h)
      refine ⟨i + 1, by omega, by omega, ⟨?_, ?_, trivial⟩, ?_, trivial⟩
      · rw [hm']; exact next_int h (by omega)
      · exact next_int h (by omega)
      · rw [hm', get_int (show i < l.length from by omega), List.take_succ_eq_append_getElem (by omega)]
        repeat (first | exact trivial | exact rfl | apply And.intro)
    · have hm : min i c.r.toNat = c.r.toNat := by omega
      have hm' : min (i + 1) c.r.toNat = c.r.toNat := by omega
      rw [hm, if_pos (by omega), decide_eq_false hk]
      refine cnd_intro (fun h => by simp at h) (fun _ => ?_)
      refine cnd_intro (fun h => by simp at h) (fun _ => ?_)
      refine ⟨i + 1, by omega, by omega, ⟨?_, ?_, trivial⟩, ?_, trivial⟩
      · rw [hm']
      · exact next_int h (by omega)
      · rw [hm']
        repeat (first | exact trivial | exact rfl | apply And.intro)
  · have h := natge h
    have hi' : i = l.length := by omega
    subst hi'
    refine ⟨⟨min l.length c.r.toNat, Nat.min_le_left _ _, ⟨?_, trivial⟩, by repeat (first | exact trivial | exact rfl | apply And.intro), trivial⟩, ?_⟩
    · show EqA (AVal.int IntKind.i64 (wr (((min l.length c.r.toNat : Nat) : Int) - 1))) _
      rw [wr_in (by omega)]
    intro k hk
    have hb : Bear (wkRH (l.take k) []) := bear_rh (tk _) nl
    have lt : (l.take k).length = k := by rw [List.length_take]; omega
    refine cnd_intro (fun h => ?_) (fun h => ?_)
    · have h := of_decide_eq_true h
      refine ⟨hb, ?_⟩
      simp only [take_rh, lt]
      rw [if_neg (by omega)]
      have hd : (l.take k).getD (k - 1) 0 = l.getD ((k : Int) - 1).toNat 0 := by
        rw [show ((k : Int) - 1).toNat = k - 1 by omega, List.getD_eq_getElem?_getD, List.getD_eq_getElem?_getD, List.getElem?_take, if_pos (by omega)]
      have ht : List.take (k - 1) (l.take k) = l.take (k - 1) := by rw [List.take_take]; congr 1; omega
      rw [hd, ht]
      refine ⟨⟨by omega, by omega⟩, cnd_intro (fun h => by simp at h) (fun _ => ?_)⟩
      refine ⟨k - 1, by omega, by omega, ⟨?_, trivial⟩, by repeat (first | exact trivial | exact rfl | apply And.intro), trivial⟩
      show EqA (AVal.int IntKind.i64 (wr ((k : Int) - 1 - 1))) _
      rw [wr_in (by omega), show ((k : Int) - 1 - 1) = ((k - 1 : Nat) : Int) - 1 by omega]
    · have h := of_decide_eq_false h
      have hk0 : k = 0 := by omega
      subst hk0
      refine ⟨hb, ?_⟩
      simp only [take_rh, List.take_zero, List.length_nil, if_true]
      refine cnd_intro (fun h => by simp at h) (fun _ => ?_)
      refine ⟨⟨bear_rh nl nl, by unfold small; omega⟩, ?_⟩
      refine ⟨⟨0, Nat.zero_le _, ⟨rfl, trivial⟩, by repeat (first | exact trivial | exact rfl | apply And.intro), trivial⟩, ?_⟩
      intro j hj
      have hb : Bear (wkRH [] (l.drop j)) := bear_rh nl (dp _)
      refine cnd_intro (fun h => ?_) (fun h => ?_)
      · have h := natlt h
        refine ⟨hb, ?_⟩
        have hl : (l.drop j).length ≠ 0 := by rw [List.length_drop]; omega
        have hd : (l.drop j).getD 0 0 = l.getD (j : Int).toNat 0 := by
          rw [Int.toNat_natCast, List.getD_eq_getElem?_getD, List.getD_eq_getElem?_getD, List.getElem?_drop]; rfl
        have ht : (l.drop j).drop 1 = l.drop (j + 1) := by rw [List.drop_drop]
        simp only [next_rh, if_neg hl, hd, ht]
        refine ⟨⟨by omega, h⟩, cnd_intro (fun h => by simp at h) (fun _ => ?_)⟩
        exact ⟨j + 1, by omega, by omega, ⟨next_int h (by omega), trivial⟩, by repeat (first | exact trivial | exact rfl | apply And.intro), trivial⟩
      · have h := natge h
        have hj' : j = l.length := by omega
        subst hj'
        refine ⟨hb, ?_⟩
        simp only [next_rh, List.drop_length, List.length_nil, if_true]
        rfl
end Go.Proofs.Ytggaecdhgbdilaa
