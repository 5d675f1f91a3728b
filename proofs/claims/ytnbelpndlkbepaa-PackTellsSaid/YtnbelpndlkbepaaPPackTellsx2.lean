-- PRINTED BY print.sh 35421559b90ae4d0a3588c463048766b98c2df88dd9212a6774a882060cdf62d: not written by this session
import Derived.Test.YtnbelpndlkbepaaPPackTellsx0
import Derived.Test.YtnbelpndlkbepaaPPackTellsx1
namespace Go.Proofs.Ytnbelpndlkbepaa.PPackTells
open Go.RowKit Go.Proofs.YtnbelpndlkbepaaW.PrintWords Go.Proofs.YtnbelpndlkbepaaW.PrintLast Go.Proofs.YtnbelpndlkbepaaW.PrintMore
attribute [local go_sem] max2_int min2_int max_two min_two max_three min_three max_four min_four   -- for this text's walks alone
set_option linter.unusedVariables false
set_option linter.unusedSimpArgs false

/-! ### coatchecklaw01_PackTells: function 4 -/
mutual
def coatchecklaw01_PackTells.j0 : Nat → Int → Bool → Option (Bool)
  | 0, _, _ => none
  | k + 1, x0, x51 => if x51 = true then (some false) else ((pack_Unentry.f x0).bind fun bt117 => ((coatcheckref01_Unentry.f k x0).bind fun bt120 => (if bt117.1 = bt120.1 then (if bt117.2.1 = bt120.2.1 then (if bt117.2.2 = bt120.2.2 then ((pack_Entry.f bt117.1 bt117.2.1 bt117.2.2).bind fun t123 => (coatchecklaw01_PackTells.j1 k x0 (t123 != x0))) else (coatchecklaw01_PackTells.j1 k x0 true)) else (coatchecklaw01_PackTells.j1 k x0 true)) else (coatchecklaw01_PackTells.j1 k x0 true))))
def coatchecklaw01_PackTells.j1 : Nat → Int → Bool → Option (Bool)
  | 0, _, _ => none
  | k + 1, x0, x84 => if x84 = true then (some false) else ((pack_Unannounce.f x0).bind fun bt124 => (if bt124.1 = (IntKind.u64.wrap (Int.tdiv x0 2)) then (if (bt124.2 != ((Int.tmod x0 2) == 1)) = true then (coatchecklaw01_PackTells.j2 k x0 true) else ((pack_Announce.f bt124.1 bt124.2).bind fun t126 => (coatchecklaw01_PackTells.j2 k x0 (t126 != x0)))) else (coatchecklaw01_PackTells.j2 k x0 true)))
def coatchecklaw01_PackTells.j2 : Nat → Int → Bool → Option (Bool)
  | 0, _, _ => none
  | k + 1, x0, x107 => if x107 = true then (some false) else ((pack_Unslab.f x0).bind fun bt127 => ((coatcheckref01_Unslab.f k x0).bind fun bt130 => (if bt127.1 = bt130.1 then (if bt127.2.1 = bt130.2.1 then (if bt127.2.2 = bt130.2.2 then ((pack_Slab.f bt127.1 bt127.2.1 bt127.2.2).bind fun t133 => (coatchecklaw01_PackTells.j3 k x0 (t133 != x0))) else (coatchecklaw01_PackTells.j3 k x0 true)) else (coatchecklaw01_PackTells.j3 k x0 true)) else (coatchecklaw01_PackTells.j3 k x0 true))))
def coatchecklaw01_PackTells.j3 : Nat → Int → Bool → Option (Bool)
  | 0, _, _ => none
  | k + 1, x0, x140 => if x140 = true then (some false) else ((pack_Unticket.f x0).bind fun bt134 => ((coatcheckref01_Unticket.f k x0).bind fun bt136 => (if bt134.1 = bt136.1 then (if bt134.2 = bt136.2 then ((pack_Ticket.f bt134.1 bt134.2).bind fun t138 => (some (t138 == x0))) else (some false)) else (some false))))
end
def coatchecklaw01_PackTells.f (k : Nat) (a0 : Int) : Option (Bool) := (coatchecklaw01_awake.f).bind fun t111 => (if t111 = true then ((pack_Unhead.f a0).bind fun bt112 => ((coatcheckref01_Unhead.f k a0).bind fun bt114 => (if bt112.1 = bt114.1 then (if bt112.2 = bt114.2 then ((pack_Head.f bt112.1 bt112.2).bind fun t116 => (coatchecklaw01_PackTells.j0 k a0 (t116 != a0))) else (coatchecklaw01_PackTells.j0 k a0 true)) else (coatchecklaw01_PackTells.j0 k a0 true)))) else (some false))
theorem coatchecklaw01_PackTells.mono_l : ∀ k, (∀ y0 y1, LeO (coatchecklaw01_PackTells.j0 k y0 y1) (coatchecklaw01_PackTells.j0 (k + 1) y0 y1)) ∧ (∀ y0 y1, LeO (coatchecklaw01_PackTells.j1 k y0 y1) (coatchecklaw01_PackTells.j1 (k + 1) y0 y1)) ∧ (∀ y0 y1, LeO (coatchecklaw01_PackTells.j2 k y0 y1) (coatchecklaw01_PackTells.j2 (k + 1) y0 y1)) ∧ (∀ y0 y1, LeO (coatchecklaw01_PackTells.j3 k y0 y1) (coatchecklaw01_PackTells.j3 (k + 1) y0 y1))
  | 0 => ⟨fun _ _ r h => by simp [coatchecklaw01_PackTells.j0] at h, fun _ _ r h => by simp [coatchecklaw01_PackTells.j1] at h, fun _ _ r h => by simp [coatchecklaw01_PackTells.j2] at h, fun _ _ r h => by simp [coatchecklaw01_PackTells.j3] at h⟩
  | k + 1 => by
    obtain ⟨ih0, ih1, ih2, ih3⟩ := coatchecklaw01_PackTells.mono_l k
    refine ⟨?_, ?_, ?_, ?_⟩
    · intro y0 y1
      unfold coatchecklaw01_PackTells.j0
      repeat' first
      | (with_reducible exact ih0 _ _)
      | (with_reducible exact ih1 _ _)
      | (with_reducible exact ih2 _ _)
      | (with_reducible exact ih3 _ _)
      | (with_reducible exact coatcheckref01_Unentry.mono _ _)
      | (with_reducible exact coatcheckref01_Unhead.mono _ _)
      | (with_reducible exact coatcheckref01_Unslab.mono _ _)
      | (with_reducible exact coatcheckref01_Unticket.mono _ _)
      | (with_reducible exact LeO.refl _)
      | (with_reducible exact LeO.none _)
      | (with_reducible refine LeO.ite ?_ ?_)
      | (with_reducible refine LeO.bind ?_ (fun _ => ?_))
      | exact ih0 _ _
      | exact ih1 _ _
      | exact ih2 _ _
      | exact ih3 _ _
      | exact coatcheckref01_Unentry.mono _ _
      | exact coatcheckref01_Unhead.mono _ _
      | exact coatcheckref01_Unslab.mono _ _
      | exact coatcheckref01_Unticket.mono _ _
      | exact LeO.none _
      | refine LeO.ite ?_ ?_
      | refine LeO.bind ?_ (fun _ => ?_)
    · intro y0 y1
      unfold coatchecklaw01_PackTells.j1
      repeat' first
      | (with_reducible exact ih0 _ _)
      | (with_reducible exact ih1 _ _)
      | (with_reducible exact ih2 _ _)
      | (with_reducible exact ih3 _ _)
      | (with_reducible exact coatcheckref01_Unentry.mono _ _)
      | (with_reducible exact coatcheckref01_Unhead.mono _ _)
      | (with_reducible exact coatcheckref01_Unslab.mono _ _)
      | (with_reducible exact coatcheckref01_Unticket.mono _ _)
      | (with_reducible exact LeO.refl _)
      | (with_reducible exact LeO.none _)
      | (with_reducible refine LeO.ite ?_ ?_)
      | (with_reducible refine LeO.bind ?_ (fun _ => ?_))
      | exact ih0 _ _
      | exact ih1 _ _
      | exact ih2 _ _
      | exact ih3 _ _
      | exact coatcheckref01_Unentry.mono _ _
      | exact coatcheckref01_Unhead.mono _ _
      | exact coatcheckref01_Unslab.mono _ _
      | exact coatcheckref01_Unticket.mono _ _
      | exact LeO.none _
      | refine LeO.ite ?_ ?_
      | refine LeO.bind ?_ (fun _ => ?_)
    · intro y0 y1
      unfold coatchecklaw01_PackTells.j2
      repeat' first
      | (with_reducible exact ih0 _ _)
      | (with_reducible exact ih1 _ _)
      | (with_reducible exact ih2 _ _)
      | (with_reducible exact ih3 _ _)
      | (with_reducible exact coatcheckref01_Unentry.mono _ _)
      | (with_reducible exact coatcheckref01_Unhead.mono _ _)
      | (with_reducible exact coatcheckref01_Unslab.mono _ _)
      | (with_reducible exact coatcheckref01_Unticket.mono _ _)
      | (with_reducible exact LeO.refl _)
      | (with_reducible exact LeO.none _)
      | (with_reducible refine LeO.ite ?_ ?_)
      | (with_reducible refine LeO.bind ?_ (fun _ => ?_))
      | exact ih0 _ _
      | exact ih1 _ _
      | exact ih2 _ _
      | exact ih3 _ _
      | exact coatcheckref01_Unentry.mono _ _
      | exact coatcheckref01_Unhead.mono _ _
      | exact coatcheckref01_Unslab.mono _ _
      | exact coatcheckref01_Unticket.mono _ _
      | exact LeO.none _
      | refine LeO.ite ?_ ?_
      | refine LeO.bind ?_ (fun _ => ?_)
    · intro y0 y1
      unfold coatchecklaw01_PackTells.j3
      repeat' first
      | (with_reducible exact ih0 _ _)
      | (with_reducible exact ih1 _ _)
      | (with_reducible exact ih2 _ _)
      | (with_reducible exact ih3 _ _)
      | (with_reducible exact coatcheckref01_Unentry.mono _ _)
      | (with_reducible exact coatcheckref01_Unhead.mono _ _)
      | (with_reducible exact coatcheckref01_Unslab.mono _ _)
      | (with_reducible exact coatcheckref01_Unticket.mono _ _)
      | (with_reducible exact LeO.refl _)
      | (with_reducible exact LeO.none _)
      | (with_reducible refine LeO.ite ?_ ?_)
      | (with_reducible refine LeO.bind ?_ (fun _ => ?_))
      | exact ih0 _ _
      | exact ih1 _ _
      | exact ih2 _ _
      | exact ih3 _ _
      | exact coatcheckref01_Unentry.mono _ _
      | exact coatcheckref01_Unhead.mono _ _
      | exact coatcheckref01_Unslab.mono _ _
      | exact coatcheckref01_Unticket.mono _ _
      | exact LeO.none _
      | refine LeO.ite ?_ ?_
      | refine LeO.bind ?_ (fun _ => ?_)
theorem coatchecklaw01_PackTells.mono : ∀ a0 k, LeO (coatchecklaw01_PackTells.f k a0) (coatchecklaw01_PackTells.f (k + 1) a0) := by
  intro a0 k
  obtain ⟨ih0, ih1, ih2, ih3⟩ := coatchecklaw01_PackTells.mono_l k
  unfold coatchecklaw01_PackTells.f
  repeat' first
      | (with_reducible exact ih0 _ _)
      | (with_reducible exact ih1 _ _)
      | (with_reducible exact ih2 _ _)
      | (with_reducible exact ih3 _ _)
      | (with_reducible exact coatcheckref01_Unentry.mono _ _)
      | (with_reducible exact coatcheckref01_Unhead.mono _ _)
      | (with_reducible exact coatcheckref01_Unslab.mono _ _)
      | (with_reducible exact coatcheckref01_Unticket.mono _ _)
      | (with_reducible exact LeO.refl _)
      | (with_reducible exact LeO.none _)
      | (with_reducible refine LeO.ite ?_ ?_)
      | (with_reducible refine LeO.bind ?_ (fun _ => ?_))
      | exact ih0 _ _
      | exact ih1 _ _
      | exact ih2 _ _
      | exact ih3 _ _
      | exact coatcheckref01_Unentry.mono _ _
      | exact coatcheckref01_Unhead.mono _ _
      | exact coatcheckref01_Unslab.mono _ _
      | exact coatcheckref01_Unticket.mono _ _
      | exact LeO.none _
      | refine LeO.ite ?_ ?_
      | refine LeO.bind ?_ (fun _ => ?_)
set_option maxHeartbeats 8000000 in
set_option maxRecDepth 100000 in
theorem coatchecklaw01_PackTells.calls (k : Nat) (a0 : Int) (r : Bool) (w : World) (h : coatchecklaw01_PackTells.f k a0 = some r) :
    Calls Try.prog 4 #[.int .u64 a0] w fun e w' => e = .returned (.bool r) ∧ Drawn0 w w' := by
  have H : ((coatchecklaw01_awake.f).bind fun t111 => (if t111 = true then ((pack_Unhead.f a0).bind fun bt112 => ((coatcheckref01_Unhead.f k a0).bind fun bt114 => (if bt112.1 = bt114.1 then (if bt112.2 = bt114.2 then ((pack_Head.f bt112.1 bt112.2).bind fun t116 => (coatchecklaw01_PackTells.j0 k a0 (t116 != a0))) else (coatchecklaw01_PackTells.j0 k a0 true)) else (coatchecklaw01_PackTells.j0 k a0 true)))) else (some false))) = some r := h
  clear h
  replace H := Option.bind_eq_some_iff.mp H
  obtain ⟨t111, A20, H⟩ := H
  replace H : (if t111 = true then ((pack_Unhead.f a0).bind fun bt112 => ((coatcheckref01_Unhead.f k a0).bind fun bt114 => (if bt112.1 = bt114.1 then (if bt112.2 = bt114.2 then ((pack_Head.f bt112.1 bt112.2).bind fun t116 => (coatchecklaw01_PackTells.j0 k a0 (t116 != a0))) else (coatchecklaw01_PackTells.j0 k a0 true)) else (coatchecklaw01_PackTells.j0 k a0 true)))) else (some false)) = some r := H
  have A2 := Aside0.mk A20
  clear A20
  by_cases c3 : t111 = true
  · subst c3
    have H1 : ((pack_Unhead.f a0).bind fun bt112 => ((coatcheckref01_Unhead.f k a0).bind fun bt114 => (if bt112.1 = bt114.1 then (if bt112.2 = bt114.2 then ((pack_Head.f bt112.1 bt112.2).bind fun t116 => (coatchecklaw01_PackTells.j0 k a0 (t116 != a0))) else (coatchecklaw01_PackTells.j0 k a0 true)) else (coatchecklaw01_PackTells.j0 k a0 true)))) = some r := by rw [if_pos rfl] at H; exact H
    clear H
    have H := H1
    clear H1
    replace H := Option.bind_eq_some_iff.mp H
    obtain ⟨⟨t112, t113⟩, A40, H⟩ := H
    replace H : ((coatcheckref01_Unhead.f k a0).bind fun bt114 => (if t112 = bt114.1 then (if t113 = bt114.2 then ((pack_Head.f t112 t113).bind fun t116 => (coatchecklaw01_PackTells.j0 k a0 (t116 != a0))) else (coatchecklaw01_PackTells.j0 k a0 true)) else (coatchecklaw01_PackTells.j0 k a0 true))) = some r := H
    have A4 := Aside0.mk A40
    clear A40
    replace H := Option.bind_eq_some_iff.mp H
    obtain ⟨⟨t114, t115⟩, A50, H⟩ := H
    replace H : (if t112 = t114 then (if t113 = t115 then ((pack_Head.f t112 t113).bind fun t116 => (coatchecklaw01_PackTells.j0 k a0 (t116 != a0))) else (coatchecklaw01_PackTells.j0 k a0 true)) else (coatchecklaw01_PackTells.j0 k a0 true)) = some r := H
    have A5 := Aside0.mk A50
    clear A50
    have HC6 := Aside0.mk H
    clear H
    go_enter Try.func4, Try.ntmps4
    go_upto_region 5 with (first | ((with_reducible refine gate_callee (f := 6) rfl ?_); refine goesL_ (some 25) rfl rfl Try.func6 (by kernel_rfl) rfl #[] rfl (by (try simp only [List.map_toArray, List.map_cons, List.map_nil]); first | done | rfl | (simp only [List.length_drop, List.length_take]; rfl)) ?_; (with_reducible refine (coatchecklaw01_awake.calls  true _ A2.out).mono ?_); rintro e w' ⟨rfl, ⟨nd, rfl⟩⟩; refine ⟨_, rfl, ?_⟩) | ((with_reducible refine gate_callee (f := 17) rfl ?_); refine goesL_ (some 29) rfl rfl Try.func17 (by kernel_rfl) rfl #[.int .u64 a0] rfl (by (try simp only [List.map_toArray, List.map_cons, List.map_nil]); first | done | rfl | (simp only [List.length_drop, List.length_take]; rfl)) ?_; (with_reducible refine (pack_Unhead.calls a0 t112 t113 _ A4.out).mono ?_); rintro e w' ⟨rfl, ⟨nd, rfl⟩⟩; refine ⟨_, rfl, ?_⟩) | ((with_reducible refine gate_callee (f := 18) rfl ?_); refine goesL_ (some 34) rfl rfl Try.func18 (by kernel_rfl) rfl #[.int .u64 a0] rfl (by (try simp only [List.map_toArray, List.map_cons, List.map_nil]); first | done | rfl | (simp only [List.length_drop, List.length_take]; rfl)) ?_; (with_reducible refine (coatcheckref01_Unhead.calls k a0 t114 t115 _ A5.out).mono ?_); rintro e w' ⟨rfl, ⟨nd, rfl⟩⟩; refine ⟨_, rfl, ?_⟩))
    (try simp only [Act.put, List.setIfInBounds_toArray, List.set_cons_zero, List.set_cons_succ])
    go_cut [51] (fun v51 wc => ∃ (kq : Nat) (x51_5 : Bool), v51 = .bool x51_5 ∧ Aside0 (coatchecklaw01_PackTells.j0 kq a0 x51_5 = some r) ∧ Aside0 (kq ≤ k) ∧ Drawn0 w wc)
    case first =>
      have H := HC6.out
      clear HC6
      by_cases c7 : t112 = t114
      · rw [if_pos c7] at H
        have c7b0 : (t112 == t114) = true := beq_iff_eq.mpr c7
        have c7b1 : (t112 != t114) = false := bne_eq_false_iff_eq.mpr c7
        clear c7
        (first | rw [c7b0] | (simp only [i64_w, i32_w]; rw [c7b0]) | skip)
        by_cases c8 : t113 = t115
        · rw [if_pos c8] at H
          have c8b0 : (t113 == t115) = true := beq_iff_eq.mpr c8
          have c8b1 : (t113 != t115) = false := bne_eq_false_iff_eq.mpr c8
          clear c8
          replace H := Option.bind_eq_some_iff.mp H
          obtain ⟨t116, A90, H⟩ := H
          replace H : (coatchecklaw01_PackTells.j0 k a0 (t116 != a0)) = some r := H
          have A9 := Aside0.mk A90
          clear A90
          have H' := Aside0.mk H
          clear H
          go_wp2_with (first | (go_at_call 7; (with_reducible refine (pack_Head.calls t112 t113 t116 _ A9.out).mono ?_); rintro e w' ⟨rfl, ⟨nd, rfl⟩⟩))
          go_meet
          case rel => exact ⟨_, ((t116 != a0)), (by first | rfl | (simp; done) | (simp [*]; done)), H', ⟨by first | omega | exact Nat.le_refl _⟩, by repeat (first | exact Drawn0.refl _ | apply Drawn0.step)⟩
        · rw [if_neg c8] at H
          have c8b0 : (t113 == t115) = false := beq_eq_false_iff_ne.mpr c8
          have c8b1 : (t113 != t115) = true := bne_iff_ne.mpr c8
          have H' := Aside0.mk H
          clear H
          go_wp2
          go_meet
          case rel => exact ⟨_, (true), (by first | rfl | (simp; done) | (simp [*]; done)), H', ⟨by first | omega | exact Nat.le_refl _⟩, by repeat (first | exact Drawn0.refl _ | apply Drawn0.step)⟩
      · rw [if_neg c7] at H
        have c7b0 : (t112 == t114) = false := beq_eq_false_iff_ne.mpr c7
        have c7b1 : (t112 != t114) = true := bne_iff_ne.mpr c7
        (first | rw [c7b0] | (simp only [i64_w, i32_w]; rw [c7b0]) | skip)
        have H' := Aside0.mk H
        clear H
        go_wp2
        go_meet
        case rel => exact ⟨_, (true), (by first | rfl | (simp; done) | (simp [*]; done)), H', ⟨by first | omega | exact Nat.le_refl _⟩, by repeat (first | exact Drawn0.refl _ | apply Drawn0.step)⟩
    case rest =>
      clear HC6
      try clear c1
      try clear p2
      try clear c3
      try clear c4
      try clear c6
      try clear c7
      try clear c7b0
      try clear c7b1
      try clear c8
      try clear c8b0
      try clear c8b1
      obtain ⟨kq, x51_5, rfl, HA, HJ5, ⟨mc5, rfl⟩⟩ := hcut
      cases kq with
      | zero => exact absurd HA.out (by simp [coatchecklaw01_PackTells.j0])
      | succ kj5 =>
        have H := HA.out
        clear HA
        simp only [coatchecklaw01_PackTells.j0] at H
        by_cases c10 : x51_5 = true
        · subst c10
          have H1 : (some false) = some r := by rw [if_pos rfl] at H; exact H
          clear H
          have H := H1
          clear H1
          obtain rfl := Option.some.inj H
          go_wp2
          go_ret
          exact ⟨by first | rfl | (simp; done) | (simp [*]; done), by repeat (first | exact Drawn0.refl _ | apply Drawn0.step)⟩
        · replace c10 := Bool.eq_false_iff.mpr c10
          subst c10
          have H1 : ((pack_Unentry.f a0).bind fun bt117 => ((coatcheckref01_Unentry.f kj5 a0).bind fun bt120 => (if bt117.1 = bt120.1 then (if bt117.2.1 = bt120.2.1 then (if bt117.2.2 = bt120.2.2 then ((pack_Entry.f bt117.1 bt117.2.1 bt117.2.2).bind fun t123 => (coatchecklaw01_PackTells.j1 kj5 a0 (t123 != a0))) else (coatchecklaw01_PackTells.j1 kj5 a0 true)) else (coatchecklaw01_PackTells.j1 kj5 a0 true)) else (coatchecklaw01_PackTells.j1 kj5 a0 true)))) = some r := by rw [if_neg (show ¬ (false = true) by decide)] at H; exact H
          clear H
          have H := H1
          clear H1
          replace H := Option.bind_eq_some_iff.mp H
          obtain ⟨⟨t117, t118, t119⟩, A110, H⟩ := H
          replace H : ((coatcheckref01_Unentry.f kj5 a0).bind fun bt120 => (if t117 = bt120.1 then (if t118 = bt120.2.1 then (if t119 = bt120.2.2 then ((pack_Entry.f t117 t118 t119).bind fun t123 => (coatchecklaw01_PackTells.j1 kj5 a0 (t123 != a0))) else (coatchecklaw01_PackTells.j1 kj5 a0 true)) else (coatchecklaw01_PackTells.j1 kj5 a0 true)) else (coatchecklaw01_PackTells.j1 kj5 a0 true))) = some r := H
          have A11 := Aside0.mk A110
          clear A110
          replace H := Option.bind_eq_some_iff.mp H
          obtain ⟨⟨t120, t121, t122⟩, A120, H⟩ := H
          replace H : (if t117 = t120 then (if t118 = t121 then (if t119 = t122 then ((pack_Entry.f t117 t118 t119).bind fun t123 => (coatchecklaw01_PackTells.j1 kj5 a0 (t123 != a0))) else (coatchecklaw01_PackTells.j1 kj5 a0 true)) else (coatchecklaw01_PackTells.j1 kj5 a0 true)) else (coatchecklaw01_PackTells.j1 kj5 a0 true)) = some r := H
          have A12 := Aside0.mk A120
          clear A120
          have HC13 := Aside0.mk H
          clear H
          go_upto_region 9 with (first | ((with_reducible refine gate_callee (f := 19) rfl ?_); refine goesL_ (some 54) rfl rfl Try.func19 (by kernel_rfl) rfl #[.int .u64 a0] rfl (by (try simp only [List.map_toArray, List.map_cons, List.map_nil]); first | done | rfl | (simp only [List.length_drop, List.length_take]; rfl)) ?_; (with_reducible refine (pack_Unentry.calls a0 t117 t118 t119 _ A11.out).mono ?_); rintro e w' ⟨rfl, ⟨nd, rfl⟩⟩; refine ⟨_, rfl, ?_⟩) | ((with_reducible refine gate_callee (f := 20) rfl ?_); refine goesL_ (some 60) rfl rfl Try.func20 (by kernel_rfl) rfl #[.int .u64 a0] rfl (by (try simp only [List.map_toArray, List.map_cons, List.map_nil]); first | done | rfl | (simp only [List.length_drop, List.length_take]; rfl)) ?_; (with_reducible refine (coatcheckref01_Unentry.calls kj5 a0 t120 t121 t122 _ A12.out).mono ?_); rintro e w' ⟨rfl, ⟨nd, rfl⟩⟩; refine ⟨_, rfl, ?_⟩))
          (try simp only [Act.put, List.setIfInBounds_toArray, List.set_cons_zero, List.set_cons_succ])
          go_cut [84] (fun v84 wc => ∃ (kq : Nat) (x84_12 : Bool), v84 = .bool x84_12 ∧ Aside0 (coatchecklaw01_PackTells.j1 kq a0 x84_12 = some r) ∧ Aside0 (kq ≤ kj5) ∧ Drawn0 w wc)
          case first =>
            have H := HC13.out
            clear HC13
            by_cases c14 : t117 = t120
            · rw [if_pos c14] at H
              have c14b0 : (t117 == t120) = true := beq_iff_eq.mpr c14
              have c14b1 : (t117 != t120) = false := bne_eq_false_iff_eq.mpr c14
              clear c14
              (first | rw [c14b0] | (simp only [i64_w, i32_w]; rw [c14b0]) | skip)
              by_cases c15 : t118 = t121
              · rw [if_pos c15] at H
                have c15b0 : (t118 == t121) = true := beq_iff_eq.mpr c15
                have c15b1 : (t118 != t121) = false := bne_eq_false_iff_eq.mpr c15
                clear c15
                by_cases c16 : t119 = t122
                · rw [if_pos c16] at H
                  have c16b0 : (t119 == t122) = true := beq_iff_eq.mpr c16
                  have c16b1 : (t119 != t122) = false := bne_eq_false_iff_eq.mpr c16
                  clear c16
                  replace H := Option.bind_eq_some_iff.mp H
                  obtain ⟨t123, A170, H⟩ := H
                  replace H : (coatchecklaw01_PackTells.j1 kj5 a0 (t123 != a0)) = some r := H
                  have A17 := Aside0.mk A170
                  clear A170
                  have H' := Aside0.mk H
                  clear H
                  go_wp2_with (first | (go_at_call 9; (with_reducible refine (pack_Entry.calls t117 t118 t119 t123 _ A17.out).mono ?_); rintro e w' ⟨rfl, ⟨nd, rfl⟩⟩))
                  go_meet
                  case rel => exact ⟨_, ((t123 != a0)), (by first | rfl | (simp; done) | (simp [*]; done)), H', ⟨by have := HJ5.out; first | omega | exact Nat.le_refl _⟩, by repeat (first | exact Drawn0.refl _ | apply Drawn0.step)⟩
                · rw [if_neg c16] at H
                  have c16b0 : (t119 == t122) = false := beq_eq_false_iff_ne.mpr c16
                  have c16b1 : (t119 != t122) = true := bne_iff_ne.mpr c16
                  have H' := Aside0.mk H
                  clear H
                  go_wp2
                  go_meet
                  case rel => exact ⟨_, (true), (by first | rfl | (simp; done) | (simp [*]; done)), H', ⟨by have := HJ5.out; first | omega | exact Nat.le_refl _⟩, by repeat (first | exact Drawn0.refl _ | apply Drawn0.step)⟩
              · rw [if_neg c15] at H
                have c15b0 : (t118 == t121) = false := beq_eq_false_iff_ne.mpr c15
                have c15b1 : (t118 != t121) = true := bne_iff_ne.mpr c15
                have H' := Aside0.mk H
                clear H
                go_wp2
                go_meet
                case rel => exact ⟨_, (true), (by first | rfl | (simp; done) | (simp [*]; done)), H', ⟨by have := HJ5.out; first | omega | exact Nat.le_refl _⟩, by repeat (first | exact Drawn0.refl _ | apply Drawn0.step)⟩
            · rw [if_neg c14] at H
              have c14b0 : (t117 == t120) = false := beq_eq_false_iff_ne.mpr c14
              have c14b1 : (t117 != t120) = true := bne_iff_ne.mpr c14
              (first | rw [c14b0] | (simp only [i64_w, i32_w]; rw [c14b0]) | skip)
              have H' := Aside0.mk H
              clear H
              go_wp2
              go_meet
              case rel => exact ⟨_, (true), (by first | rfl | (simp; done) | (simp [*]; done)), H', ⟨by have := HJ5.out; first | omega | exact Nat.le_refl _⟩, by repeat (first | exact Drawn0.refl _ | apply Drawn0.step)⟩
          case rest =>
            clear HC13
            try clear c1
            try clear c2
            try clear p2
            try clear c3
            try clear c4
            try clear c5
            try clear c6
            try clear c7
            try clear c7b0
            try clear c7b1
            try clear c8
            try clear c8b0
            try clear c8b1
            try clear c10
            try clear c14
            try clear c14b0
            try clear c14b1
            try clear c15
            try clear c15b0
            try clear c15b1
            try clear c16
            try clear c16b0
            try clear c16b1
            try clear c17
            try clear p2
            obtain ⟨kq, x84_12, rfl, HA, HJ12, ⟨mc12, rfl⟩⟩ := hcut
            cases kq with
            | zero => exact absurd HA.out (by simp [coatchecklaw01_PackTells.j1])
            | succ kj12 =>
              have H := HA.out
              clear HA
              simp only [coatchecklaw01_PackTells.j1] at H
              by_cases c18 : x84_12 = true
              · subst c18
                have H1 : (some false) = some r := by rw [if_pos rfl] at H; exact H
                clear H
                have H := H1
                clear H1
                obtain rfl := Option.some.inj H
                go_wp2
                go_ret
                exact ⟨by first | rfl | (simp; done) | (simp [*]; done), by repeat (first | exact Drawn0.refl _ | apply Drawn0.step)⟩
              · replace c18 := Bool.eq_false_iff.mpr c18
                subst c18
                have H1 : ((pack_Unannounce.f a0).bind fun bt124 => (if bt124.1 = (IntKind.u64.wrap (Int.tdiv a0 2)) then (if (bt124.2 != ((Int.tmod a0 2) == 1)) = true then (coatchecklaw01_PackTells.j2 kj12 a0 true) else ((pack_Announce.f bt124.1 bt124.2).bind fun t126 => (coatchecklaw01_PackTells.j2 kj12 a0 (t126 != a0)))) else (coatchecklaw01_PackTells.j2 kj12 a0 true))) = some r := by rw [if_neg (show ¬ (false = true) by decide)] at H; exact H
                clear H
                have H := H1
                clear H1
                replace H := Option.bind_eq_some_iff.mp H
                obtain ⟨⟨t124, t125⟩, A190, H⟩ := H
                replace H : (if t124 = (IntKind.u64.wrap (Int.tdiv a0 2)) then (if (t125 != ((Int.tmod a0 2) == 1)) = true then (coatchecklaw01_PackTells.j2 kj12 a0 true) else ((pack_Announce.f t124 t125).bind fun t126 => (coatchecklaw01_PackTells.j2 kj12 a0 (t126 != a0)))) else (coatchecklaw01_PackTells.j2 kj12 a0 true)) = some r := H
                have A19 := Aside0.mk A190
                clear A190
                have HC20 := Aside0.mk H
                clear H
                go_upto_region 12 with (first | ((with_reducible refine gate_callee (f := 21) rfl ?_); refine goesL_ (some 87) rfl rfl Try.func21 (by kernel_rfl) rfl #[.int .u64 a0] rfl (by (try simp only [List.map_toArray, List.map_cons, List.map_nil]); first | done | rfl | (simp only [List.length_drop, List.length_take]; rfl)) ?_; (with_reducible refine (pack_Unannounce.calls a0 t124 t125 _ A19.out).mono ?_); rintro e w' ⟨rfl, ⟨nd, rfl⟩⟩; refine ⟨_, rfl, ?_⟩))
                (try simp only [Act.put, List.setIfInBounds_toArray, List.set_cons_zero, List.set_cons_succ])
                go_cut [107] (fun v107 wc => ∃ (kq : Nat) (x107_19 : Bool), v107 = .bool x107_19 ∧ Aside0 (coatchecklaw01_PackTells.j2 kq a0 x107_19 = some r) ∧ Aside0 (kq ≤ kj12) ∧ Drawn0 w wc)
                case first =>
                  have H := HC20.out
                  clear HC20
                  by_cases c21 : t124 = (IntKind.u64.wrap (Int.tdiv a0 2))
                  · rw [if_pos c21] at H
                    have c21b0 : (t124 == (IntKind.u64.wrap (Int.tdiv a0 2))) = true := beq_iff_eq.mpr c21
                    have c21b1 : (t124 != (IntKind.u64.wrap (Int.tdiv a0 2))) = false := bne_eq_false_iff_eq.mpr c21
                    clear c21
                    (first | rw [c21b0] | (simp only [i64_w, i32_w]; rw [c21b0]) | skip)
                    by_cases c22 : (t125 != ((Int.tmod a0 2) == 1)) = true
                    · rw [if_pos c22] at H
                      have c22b0 : (t125 != ((Int.tmod a0 2) == 1)) = true := c22
                      (try (have c22b1 : decide (t125 = ((Int.tmod a0 2) == 1)) = false := by simpa using c22))
                      (try (have c22b2 : (t125 == ((Int.tmod a0 2) == 1)) = false := by simpa using c22))
                      (try (have c22b3 : ¬ (t125 = ((Int.tmod a0 2) == 1)) := by simpa using c22))
                      clear c22
                      have H' := Aside0.mk H
                      clear H
                      go_wp2
                      go_meet
                      case rel => exact ⟨_, (true), (by first | rfl | (simp; done) | (simp [*]; done)), H', ⟨by have := HJ5.out; have := HJ12.out; first | omega | exact Nat.le_refl _⟩, by repeat (first | exact Drawn0.refl _ | apply Drawn0.step)⟩
                    · rw [if_neg c22] at H
                      have c22b0 : (t125 != ((Int.tmod a0 2) == 1)) = false := by simpa using c22
                      (try (have c22b1 : decide (t125 = ((Int.tmod a0 2) == 1)) = true := by simpa using c22))
                      (try (have c22b2 : (t125 == ((Int.tmod a0 2) == 1)) = true := by simpa using c22))
                      clear c22
                      replace H := Option.bind_eq_some_iff.mp H
                      obtain ⟨t126, A230, H⟩ := H
                      replace H : (coatchecklaw01_PackTells.j2 kj12 a0 (t126 != a0)) = some r := H
                      have A23 := Aside0.mk A230
                      clear A230
                      have H' := Aside0.mk H
                      clear H
                      go_wp2_with (first | (go_at_call 11; (with_reducible refine (pack_Announce.calls t124 t125 t126 _ A23.out).mono ?_); rintro e w' ⟨rfl, ⟨nd, rfl⟩⟩))
                      go_meet
                      case rel => exact ⟨_, ((t126 != a0)), (by first | rfl | (simp; done) | (simp [*]; done)), H', ⟨by have := HJ5.out; have := HJ12.out; first | omega | exact Nat.le_refl _⟩, by repeat (first | exact Drawn0.refl _ | apply Drawn0.step)⟩
                  · rw [if_neg c21] at H
                    have c21b0 : (t124 == (IntKind.u64.wrap (Int.tdiv a0 2))) = false := beq_eq_false_iff_ne.mpr c21
                    have c21b1 : (t124 != (IntKind.u64.wrap (Int.tdiv a0 2))) = true := bne_iff_ne.mpr c21
                    (first | rw [c21b0] | (simp only [i64_w, i32_w]; rw [c21b0]) | skip)
                    have H' := Aside0.mk H
                    clear H
                    go_wp2
                    go_meet
                    case rel => exact ⟨_, (true), (by first | rfl | (simp; done) | (simp [*]; done)), H', ⟨by have := HJ5.out; have := HJ12.out; first | omega | exact Nat.le_refl _⟩, by repeat (first | exact Drawn0.refl _ | apply Drawn0.step)⟩
                case rest =>
                  clear HC20
                  try clear c1
                  try clear c2
                  try clear p2
                  try clear c3
                  try clear c4
                  try clear c5
                  try clear c6
                  try clear c7
                  try clear c7b0
                  try clear c7b1
                  try clear c8
                  try clear c8b0
                  try clear c8b1
                  try clear c10
                  try clear c12
                  try clear c14
                  try clear c14b0
                  try clear c14b1
                  try clear c15
                  try clear c15b0
                  try clear c15b1
                  try clear c16
                  try clear c16b0
                  try clear c16b1
                  try clear c17
                  try clear c18
                  try clear c19
                  try clear c20
                  try clear c21
                  try clear c21b0
                  try clear c21b1
                  try clear c22
                  try clear c22b0
                  try clear c22b1
                  try clear c22b2
                  try clear p2
                  obtain ⟨kq, x107_19, rfl, HA, HJ19, ⟨mc19, rfl⟩⟩ := hcut
                  cases kq with
                  | zero => exact absurd HA.out (by simp [coatchecklaw01_PackTells.j2])
                  | succ kj19 =>
                    have H := HA.out
                    clear HA
                    simp only [coatchecklaw01_PackTells.j2] at H
                    by_cases c24 : x107_19 = true
                    · subst c24
                      have H1 : (some false) = some r := by rw [if_pos rfl] at H; exact H
                      clear H
                      have H := H1
                      clear H1
                      obtain rfl := Option.some.inj H
                      go_wp2
                      go_ret
                      exact ⟨by first | rfl | (simp; done) | (simp [*]; done), by repeat (first | exact Drawn0.refl _ | apply Drawn0.step)⟩
                    · replace c24 := Bool.eq_false_iff.mpr c24
                      subst c24
                      have H1 : ((pack_Unslab.f a0).bind fun bt127 => ((coatcheckref01_Unslab.f kj19 a0).bind fun bt130 => (if bt127.1 = bt130.1 then (if bt127.2.1 = bt130.2.1 then (if bt127.2.2 = bt130.2.2 then ((pack_Slab.f bt127.1 bt127.2.1 bt127.2.2).bind fun t133 => (coatchecklaw01_PackTells.j3 kj19 a0 (t133 != a0))) else (coatchecklaw01_PackTells.j3 kj19 a0 true)) else (coatchecklaw01_PackTells.j3 kj19 a0 true)) else (coatchecklaw01_PackTells.j3 kj19 a0 true)))) = some r := by rw [if_neg (show ¬ (false = true) by decide)] at H; exact H
                      clear H
                      have H := H1
                      clear H1
                      replace H := Option.bind_eq_some_iff.mp H
                      obtain ⟨⟨t127, t128, t129⟩, A250, H⟩ := H
                      replace H : ((coatcheckref01_Unslab.f kj19 a0).bind fun bt130 => (if t127 = bt130.1 then (if t128 = bt130.2.1 then (if t129 = bt130.2.2 then ((pack_Slab.f t127 t128 t129).bind fun t133 => (coatchecklaw01_PackTells.j3 kj19 a0 (t133 != a0))) else (coatchecklaw01_PackTells.j3 kj19 a0 true)) else (coatchecklaw01_PackTells.j3 kj19 a0 true)) else (coatchecklaw01_PackTells.j3 kj19 a0 true))) = some r := H
                      have A25 := Aside0.mk A250
                      clear A250
                      replace H := Option.bind_eq_some_iff.mp H
                      obtain ⟨⟨t130, t131, t132⟩, A260, H⟩ := H
                      replace H : (if t127 = t130 then (if t128 = t131 then (if t129 = t132 then ((pack_Slab.f t127 t128 t129).bind fun t133 => (coatchecklaw01_PackTells.j3 kj19 a0 (t133 != a0))) else (coatchecklaw01_PackTells.j3 kj19 a0 true)) else (coatchecklaw01_PackTells.j3 kj19 a0 true)) else (coatchecklaw01_PackTells.j3 kj19 a0 true)) = some r := H
                      have A26 := Aside0.mk A260
                      clear A260
                      have HC27 := Aside0.mk H
                      clear H
                      go_upto_region 16 with (first | ((with_reducible refine gate_callee (f := 22) rfl ?_); refine goesL_ (some 110) rfl rfl Try.func22 (by kernel_rfl) rfl #[.int .u64 a0] rfl (by (try simp only [List.map_toArray, List.map_cons, List.map_nil]); first | done | rfl | (simp only [List.length_drop, List.length_take]; rfl)) ?_; (with_reducible refine (pack_Unslab.calls a0 t127 t128 t129 _ A25.out).mono ?_); rintro e w' ⟨rfl, ⟨nd, rfl⟩⟩; refine ⟨_, rfl, ?_⟩) | ((with_reducible refine gate_callee (f := 23) rfl ?_); refine goesL_ (some 116) rfl rfl Try.func23 (by kernel_rfl) rfl #[.int .u64 a0] rfl (by (try simp only [List.map_toArray, List.map_cons, List.map_nil]); first | done | rfl | (simp only [List.length_drop, List.length_take]; rfl)) ?_; (with_reducible refine (coatcheckref01_Unslab.calls kj19 a0 t130 t131 t132 _ A26.out).mono ?_); rintro e w' ⟨rfl, ⟨nd, rfl⟩⟩; refine ⟨_, rfl, ?_⟩))
                      (try simp only [Act.put, List.setIfInBounds_toArray, List.set_cons_zero, List.set_cons_succ])
                      go_cut [140] (fun v140 wc => ∃ (kq : Nat) (x140_26 : Bool), v140 = .bool x140_26 ∧ Aside0 (coatchecklaw01_PackTells.j3 kq a0 x140_26 = some r) ∧ Aside0 (kq ≤ kj19) ∧ Drawn0 w wc)
                      case first =>
                        have H := HC27.out
                        clear HC27
                        by_cases c28 : t127 = t130
                        · rw [if_pos c28] at H
                          have c28b0 : (t127 == t130) = true := beq_iff_eq.mpr c28
                          have c28b1 : (t127 != t130) = false := bne_eq_false_iff_eq.mpr c28
                          clear c28
                          (first | rw [c28b0] | (simp only [i64_w, i32_w]; rw [c28b0]) | skip)
                          by_cases c29 : t128 = t131
                          · rw [if_pos c29] at H
                            have c29b0 : (t128 == t131) = true := beq_iff_eq.mpr c29
                            have c29b1 : (t128 != t131) = false := bne_eq_false_iff_eq.mpr c29
                            clear c29
                            by_cases c30 : t129 = t132
                            · rw [if_pos c30] at H
                              have c30b0 : (t129 == t132) = true := beq_iff_eq.mpr c30
                              have c30b1 : (t129 != t132) = false := bne_eq_false_iff_eq.mpr c30
                              clear c30
                              replace H := Option.bind_eq_some_iff.mp H
                              obtain ⟨t133, A310, H⟩ := H
                              replace H : (coatchecklaw01_PackTells.j3 kj19 a0 (t133 != a0)) = some r := H
                              have A31 := Aside0.mk A310
                              clear A310
                              have H' := Aside0.mk H
                              clear H
                              go_wp2_with (first | (go_at_call 13; (with_reducible refine (pack_Slab.calls t127 t128 t129 t133 _ A31.out).mono ?_); rintro e w' ⟨rfl, ⟨nd, rfl⟩⟩))
                              go_meet
                              case rel => exact ⟨_, ((t133 != a0)), (by first | rfl | (simp; done) | (simp [*]; done)), H', ⟨by have := HJ5.out; have := HJ12.out; have := HJ19.out; first | omega | exact Nat.le_refl _⟩, by repeat (first | exact Drawn0.refl _ | apply Drawn0.step)⟩
                            · rw [if_neg c30] at H
                              have c30b0 : (t129 == t132) = false := beq_eq_false_iff_ne.mpr c30
                              have c30b1 : (t129 != t132) = true := bne_iff_ne.mpr c30
                              have H' := Aside0.mk H
                              clear H
                              go_wp2
                              go_meet
                              case rel => exact ⟨_, (true), (by first | rfl | (simp; done) | (simp [*]; done)), H', ⟨by have := HJ5.out; have := HJ12.out; have := HJ19.out; first | omega | exact Nat.le_refl _⟩, by repeat (first | exact Drawn0.refl _ | apply Drawn0.step)⟩
                          · rw [if_neg c29] at H
                            have c29b0 : (t128 == t131) = false := beq_eq_false_iff_ne.mpr c29
                            have c29b1 : (t128 != t131) = true := bne_iff_ne.mpr c29
                            have H' := Aside0.mk H
                            clear H
                            go_wp2
                            go_meet
                            case rel => exact ⟨_, (true), (by first | rfl | (simp; done) | (simp [*]; done)), H', ⟨by have := HJ5.out; have := HJ12.out; have := HJ19.out; first | omega | exact Nat.le_refl _⟩, by repeat (first | exact Drawn0.refl _ | apply Drawn0.step)⟩
                        · rw [if_neg c28] at H
                          have c28b0 : (t127 == t130) = false := beq_eq_false_iff_ne.mpr c28
                          have c28b1 : (t127 != t130) = true := bne_iff_ne.mpr c28
                          (first | rw [c28b0] | (simp only [i64_w, i32_w]; rw [c28b0]) | skip)
                          have H' := Aside0.mk H
                          clear H
                          go_wp2
                          go_meet
                          case rel => exact ⟨_, (true), (by first | rfl | (simp; done) | (simp [*]; done)), H', ⟨by have := HJ5.out; have := HJ12.out; have := HJ19.out; first | omega | exact Nat.le_refl _⟩, by repeat (first | exact Drawn0.refl _ | apply Drawn0.step)⟩
                      case rest =>
                        clear HC27
                        try clear c1
                        try clear c2
                        try clear p2
                        try clear c3
                        try clear c4
                        try clear c5
                        try clear c6
                        try clear c7
                        try clear c7b0
                        try clear c7b1
                        try clear c8
                        try clear c8b0
                        try clear c8b1
                        try clear c10
                        try clear c12
                        try clear c14
                        try clear c14b0
                        try clear c14b1
                        try clear c15
                        try clear c15b0
                        try clear c15b1
                        try clear c16
                        try clear c16b0
                        try clear c16b1
                        try clear c17
                        try clear c18
                        try clear c19
                        try clear c20
                        try clear c21
                        try clear c21b0
                        try clear c21b1
                        try clear c22
                        try clear c22b0
                        try clear c22b1
                        try clear c22b2
                        try clear c23
                        try clear c24
                        try clear c28
                        try clear c28b0
                        try clear c28b1
                        try clear c29
                        try clear c29b0
                        try clear c29b1
                        try clear c30
                        try clear c30b0
                        try clear c30b1
                        try clear p2
                        obtain ⟨kq, x140_26, rfl, HA, HJ26, ⟨mc26, rfl⟩⟩ := hcut
                        cases kq with
                        | zero => exact absurd HA.out (by simp [coatchecklaw01_PackTells.j3])
                        | succ kj26 =>
                          have H := HA.out
                          clear HA
                          simp only [coatchecklaw01_PackTells.j3] at H
                          by_cases c32 : x140_26 = true
                          · subst c32
                            have H1 : (some false) = some r := by rw [if_pos rfl] at H; exact H
                            clear H
                            have H := H1
                            clear H1
                            obtain rfl := Option.some.inj H
                            go_wp2
                            go_ret
                            exact ⟨by first | rfl | (simp; done) | (simp [*]; done), by repeat (first | exact Drawn0.refl _ | apply Drawn0.step)⟩
                          · replace c32 := Bool.eq_false_iff.mpr c32
                            subst c32
                            have H1 : ((pack_Unticket.f a0).bind fun bt134 => ((coatcheckref01_Unticket.f kj26 a0).bind fun bt136 => (if bt134.1 = bt136.1 then (if bt134.2 = bt136.2 then ((pack_Ticket.f bt134.1 bt134.2).bind fun t138 => (some (t138 == a0))) else (some false)) else (some false)))) = some r := by rw [if_neg (show ¬ (false = true) by decide)] at H; exact H
                            clear H
                            have H := H1
                            clear H1
                            replace H := Option.bind_eq_some_iff.mp H
                            obtain ⟨⟨t134, t135⟩, A330, H⟩ := H
                            replace H : ((coatcheckref01_Unticket.f kj26 a0).bind fun bt136 => (if t134 = bt136.1 then (if t135 = bt136.2 then ((pack_Ticket.f t134 t135).bind fun t138 => (some (t138 == a0))) else (some false)) else (some false))) = some r := H
                            have A33 := Aside0.mk A330
                            clear A330
                            replace H := Option.bind_eq_some_iff.mp H
                            obtain ⟨⟨t136, t137⟩, A340, H⟩ := H
                            replace H : (if t134 = t136 then (if t135 = t137 then ((pack_Ticket.f t134 t135).bind fun t138 => (some (t138 == a0))) else (some false)) else (some false)) = some r := H
                            have A34 := Aside0.mk A340
                            clear A340
                            by_cases c35 : t134 = t136
                            · rw [if_pos c35] at H
                              have c35b0 : (t134 == t136) = true := beq_iff_eq.mpr c35
                              have c35b1 : (t134 != t136) = false := bne_eq_false_iff_eq.mpr c35
                              clear c35
                              by_cases c36 : t135 = t137
                              · rw [if_pos c36] at H
                                have c36b0 : (t135 == t137) = true := beq_iff_eq.mpr c36
                                have c36b1 : (t135 != t137) = false := bne_eq_false_iff_eq.mpr c36
                                clear c36
                                replace H := Option.bind_eq_some_iff.mp H
                                obtain ⟨t138, A370, H⟩ := H
                                replace H : (some (t138 == a0)) = some r := H
                                have A37 := Aside0.mk A370
                                clear A370
                                obtain rfl := Option.some.inj H
                                go_wp2_with (first | ((with_reducible refine gate_callee (f := 24) rfl ?_); refine goesL_ (some 143) rfl rfl Try.func24 (by kernel_rfl) rfl #[.int .u64 a0] rfl (by (try simp only [List.map_toArray, List.map_cons, List.map_nil]); first | done | rfl | (simp only [List.length_drop, List.length_take]; rfl)) ?_; (with_reducible refine (pack_Unticket.calls a0 t134 t135 _ A33.out).mono ?_); rintro e w' ⟨rfl, ⟨nd, rfl⟩⟩; refine ⟨_, rfl, ?_⟩) | ((with_reducible refine gate_callee (f := 25) rfl ?_); refine goesL_ (some 148) rfl rfl Try.func25 (by kernel_rfl) rfl #[.int .u64 a0] rfl (by (try simp only [List.map_toArray, List.map_cons, List.map_nil]); first | done | rfl | (simp only [List.length_drop, List.length_take]; rfl)) ?_; (with_reducible refine (coatcheckref01_Unticket.calls kj26 a0 t136 t137 _ A34.out).mono ?_); rintro e w' ⟨rfl, ⟨nd, rfl⟩⟩; refine ⟨_, rfl, ?_⟩) | (go_at_call 15; (with_reducible refine (pack_Ticket.calls t134 t135 t138 _ A37.out).mono ?_); rintro e w' ⟨rfl, ⟨nd, rfl⟩⟩))
                                go_ret
                                exact ⟨by first | rfl | (simp; done) | (simp [*]; done), by repeat (first | exact Drawn0.refl _ | apply Drawn0.step)⟩
                              · rw [if_neg c36] at H
                                have c36b0 : (t135 == t137) = false := beq_eq_false_iff_ne.mpr c36
                                have c36b1 : (t135 != t137) = true := bne_iff_ne.mpr c36
                                obtain rfl := Option.some.inj H
                                go_wp2_with (first | ((with_reducible refine gate_callee (f := 24) rfl ?_); refine goesL_ (some 143) rfl rfl Try.func24 (by kernel_rfl) rfl #[.int .u64 a0] rfl (by (try simp only [List.map_toArray, List.map_cons, List.map_nil]); first | done | rfl | (simp only [List.length_drop, List.length_take]; rfl)) ?_; (with_reducible refine (pack_Unticket.calls a0 t134 t135 _ A33.out).mono ?_); rintro e w' ⟨rfl, ⟨nd, rfl⟩⟩; refine ⟨_, rfl, ?_⟩) | ((with_reducible refine gate_callee (f := 25) rfl ?_); refine goesL_ (some 148) rfl rfl Try.func25 (by kernel_rfl) rfl #[.int .u64 a0] rfl (by (try simp only [List.map_toArray, List.map_cons, List.map_nil]); first | done | rfl | (simp only [List.length_drop, List.length_take]; rfl)) ?_; (with_reducible refine (coatcheckref01_Unticket.calls kj26 a0 t136 t137 _ A34.out).mono ?_); rintro e w' ⟨rfl, ⟨nd, rfl⟩⟩; refine ⟨_, rfl, ?_⟩))
                                go_ret
                                exact ⟨by first | rfl | (simp; done) | (simp [*]; done), by repeat (first | exact Drawn0.refl _ | apply Drawn0.step)⟩
                            · rw [if_neg c35] at H
                              have c35b0 : (t134 == t136) = false := beq_eq_false_iff_ne.mpr c35
                              have c35b1 : (t134 != t136) = true := bne_iff_ne.mpr c35
                              obtain rfl := Option.some.inj H
                              go_wp2_with (first | ((with_reducible refine gate_callee (f := 24) rfl ?_); refine goesL_ (some 143) rfl rfl Try.func24 (by kernel_rfl) rfl #[.int .u64 a0] rfl (by (try simp only [List.map_toArray, List.map_cons, List.map_nil]); first | done | rfl | (simp only [List.length_drop, List.length_take]; rfl)) ?_; (with_reducible refine (pack_Unticket.calls a0 t134 t135 _ A33.out).mono ?_); rintro e w' ⟨rfl, ⟨nd, rfl⟩⟩; refine ⟨_, rfl, ?_⟩) | ((with_reducible refine gate_callee (f := 25) rfl ?_); refine goesL_ (some 148) rfl rfl Try.func25 (by kernel_rfl) rfl #[.int .u64 a0] rfl (by (try simp only [List.map_toArray, List.map_cons, List.map_nil]); first | done | rfl | (simp only [List.length_drop, List.length_take]; rfl)) ?_; (with_reducible refine (coatcheckref01_Unticket.calls kj26 a0 t136 t137 _ A34.out).mono ?_); rintro e w' ⟨rfl, ⟨nd, rfl⟩⟩; refine ⟨_, rfl, ?_⟩))
                              go_ret
                              exact ⟨by first | rfl | (simp; done) | (simp [*]; done), by repeat (first | exact Drawn0.refl _ | apply Drawn0.step)⟩
  · replace c3 := Bool.eq_false_iff.mpr c3
    subst c3
    have H1 : (some false) = some r := by rw [if_neg (show ¬ (false = true) by decide)] at H; exact H
    clear H
    have H := H1
    clear H1
    obtain rfl := Option.some.inj H
    go_enter Try.func4, Try.ntmps4
    go_wp2_with (first | ((with_reducible refine gate_callee (f := 6) rfl ?_); refine goesL_ (some 25) rfl rfl Try.func6 (by kernel_rfl) rfl #[] rfl (by (try simp only [List.map_toArray, List.map_cons, List.map_nil]); first | done | rfl | (simp only [List.length_drop, List.length_take]; rfl)) ?_; (with_reducible refine (coatchecklaw01_awake.calls  false _ A2.out).mono ?_); rintro e w' ⟨rfl, ⟨nd, rfl⟩⟩; refine ⟨_, rfl, ?_⟩))
    go_ret
    exact ⟨by first | rfl | (simp; done) | (simp [*]; done), by repeat (first | exact Drawn0.refl _ | apply Drawn0.step)⟩

/-- THE ONE PURE STATEMENT of coatchecklaw01_PackTells: yours. -/
def coatchecklaw01_PackTells.Pure : Prop := ∀ (a0 : Int), (Lit.int .u64 a0).wf = true → ∃ k, coatchecklaw01_PackTells.f k a0 = some true
theorem coatchecklaw01_PackTells.walk (P : coatchecklaw01_PackTells.Pure) (a0 : Int) (w : World) (w0 : (Lit.int .u64 a0).wf = true) :
    Calls Try.prog 4 #[.int .u64 a0] w fun e w' => e = .returned (.bool true) ∧ Below w.heap.size w w' := by
  obtain ⟨k, h⟩ := P a0 w0
  refine (coatchecklaw01_PackTells.calls k a0 true w h).mono ?_
  rintro e w' ⟨rfl, hd⟩
  exact ⟨rfl, hd.below⟩

end Go.Proofs.Ytnbelpndlkbepaa.PPackTells
