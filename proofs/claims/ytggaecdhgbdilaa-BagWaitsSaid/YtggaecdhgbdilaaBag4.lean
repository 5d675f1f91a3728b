/- The contracts of Room and Put. No condition. -/
import Derived.Test.YtggaecdhgbdilaaVc9
set_option linter.unusedVariables false
set_option linter.unusedSimpArgs false
set_option maxRecDepth 100000
namespace Go.Proofs.Ytggaecdhgbdilaa
open Go Go.Ax

theorem idx_cases (x : Wk) : idxW x = 0 ∨ idxW x = 1 ∨ idxW x = 2 := by
  by_cases h0 : idxW x = 0
  · exact .inl h0
  · by_cases h1 : idxW x = 1
    · exact .inr (.inl h1)
    · exact .inr (.inr (idx_two h0 h1))
theorem nowX_e (x : Wk) : (nowX x).e = x.e := by
  rcases idx_cases x with h | h | h
  · rw [nowX_0 h]; split <;> rfl
  · rw [nowX_1 h]; split <;> rfl
  · rw [nowX_2 h]; split <;> rfl
theorem tag_now (x : Wk) : tagW (nowX x) = tagW x := by unfold tagW; rw [nowX_e]
theorem idx_now (x : Wk) : idxW (nowX x) = idxW x := by unfold idxW; rw [tag_now]
theorem nowX_idem (x : Wk) : nowX (nowX x) = nowX x := by
  have hi := idx_now x
  have ht := tag_now x
  rcases idx_cases x with h | h | h
  · rw [nowX_0 (hi.trans h), ht, if_pos]
    rw [nowX_0 h]; split
    · assumption
    · rfl
  · rw [nowX_1 (hi.trans h), ht, if_pos]
    rw [nowX_1 h]; split
    · assumption
    · rfl
  · rw [nowX_2 (hi.trans h), ht, if_pos]
    rw [nowX_2 h]; split
    · assumption
    · rfl
theorem nowX_easy {x : Wk} (hx : Easy x) : Easy (nowX x) := by
  have := hx.sum
  rcases idx_cases x with h | h | h
  · rw [nowX_0 h]; split
    · exact hx
    · exact ⟨hx.rack, hx.read, by simp; omega⟩
  · rw [nowX_1 h]; split
    · exact hx
    · exact ⟨hx.rack, hx.read, by simp; omega⟩
  · rw [nowX_2 h]; split
    · exact hx
    · exact ⟨hx.rack, hx.read, by simp; omega⟩
theorem now_t0 {x : Wk} (h : idxW x = 0) : (nowX x).t0 = tagW x := by
  rw [nowX_0 h]; split
  · assumption
  · rfl
theorem now_t1 {x : Wk} (h : idxW x = 1) : (nowX x).t1 = tagW x := by
  rw [nowX_1 h]; split
  · assumption
  · rfl
theorem now_t2 {x : Wk} (h : idxW x = 2) : (nowX x).t2 = tagW x := by
  rw [nowX_2 h]; split
  · assumption
  · rfl
theorem ok27 : GOk cx 27 (plain aRoom cdWB (fun y => Easy y.2) roomW) := plain_ok Γ7_ok Try.func27 (body_of (by kernel_rfl)) Try.call27 (fun ⟨c, x⟩ h => ⟨noSpec, 200, by
  have h : Easy x := h
  have e := vc_room (fun q => q = roomW (c, x)) c x
  rw [e]; clear e
  refine ⟨h, ?_⟩
  rcases idx_cases x with hi | hi | hi <;> simp [hi, cnd, roomW, bagL]⟩)
theorem Γ8_ok : ∀ f g, Γ8 f = some g → GOk cx f g := addΓ_ok Γ7_ok ok27
theorem ok24 : GOk cx 24 (plain aPut cdWB (fun y => Easy y.2.1) bagPut) := plain_ok Γ8_ok Try.func24 (body_of (by kernel_rfl)) Try.call24 (fun ⟨c, x, b⟩ h => ⟨noSpec, 200, by
  have h : Easy x := h
  have e := vc_bput (fun q => q = bagPut (c, x, b)) c x b
  rw [e]; clear e
  have hn := nowX_easy h
  have hb := easy_bear hn
  have hs := hn.sum
  refine ⟨h, ?_⟩
  rw [idx_now, nowX_idem]
  by_cases hc : ((bagL (nowX x) (idxW x)).length : Int) < c.a
  · rcases idx_cases x with hi | hi | hi <;> rw [hi] at hc
    · simp [hi, cnd, bagPut, hc, hn, hb.l0, hb.l1, hb.l2, bagL, setBag, now_t0 hi]; simp [bagL] at hc; try simp [hc]
      try omega
    · simp [hi, cnd, bagPut, hc, hn, hb.l0, hb.l1, hb.l2, bagL, setBag, now_t1 hi]; simp [bagL] at hc; try simp [hc]
      try omega
    · simp [hi, cnd, bagPut, hc, hn, hb.l0, hb.l1, hb.l2, bagL, setBag, now_t2 hi]; simp [bagL] at hc; try simp [hc]
      try omega
  · simp [cnd, bagPut, hc]⟩)
theorem ok29 : GOk cx 29 (plain aPut cdWB (fun y => Easy y.2.1) bagPut) := plain_ok Γ8_ok Try.func29 (body_of (by kernel_rfl)) Try.call29 (fun ⟨c, x, b⟩ h => ⟨noSpec, 200, by
  have h : Easy x := h
  have e := vc_rbput (fun q => q = bagPut (c, x, b)) c x b
  rw [e]; clear e
  have hn := nowX_easy h
  have hb := easy_bear hn
  have hs := hn.sum
  refine ⟨h, ?_⟩
  rw [show Int.tmod (IntKind.wrap IntKind.u64 ((nowX x).e + 1)) 3 = idxW x from idx_now x]
  by_cases hc : ((bagL (nowX x) (idxW x)).length : Int) < c.a
  · rcases idx_cases x with hi | hi | hi <;> rw [hi] at hc
    · simp [hi, cnd, bagPut, hc, hn, hb.l0, hb.l1, hb.l2, bagL, setBag, now_t0 hi]; simp [bagL] at hc; try simp [hc]
      try omega
    · simp [hi, cnd, bagPut, hc, hn, hb.l0, hb.l1, hb.l2, bagL, setBag, now_t1 hi]; simp [bagL] at hc; try simp [hc]
      try omega
    · simp [hi, cnd, bagPut, hc, hn, hb.l0, hb.l1, hb.l2, bagL, setBag, now_t2 hi]; simp [bagL] at hc; try simp [hc]
      try omega
  · simp [cnd, bagPut, hc]⟩)
end Go.Proofs.Ytggaecdhgbdilaa
