-- PRINTED BY print.sh 35421559b90ae4d0a3588c463048766b98c2df88dd9212a6774a882060cdf62d: not written by this session
import Derived.Test.YtnbelpndlkbepaaPPackTellsx0
namespace Go.Proofs.Ytnbelpndlkbepaa.PPackTells
open Go.RowKit Go.Proofs.YtnbelpndlkbepaaW.PrintWords Go.Proofs.YtnbelpndlkbepaaW.PrintLast Go.Proofs.YtnbelpndlkbepaaW.PrintMore
attribute [local go_sem] max2_int min2_int max_two min_two max_three min_three max_four min_four   -- for this text's walks alone
set_option linter.unusedVariables false
set_option linter.unusedSimpArgs false

/-! ### pack_Head: function 7 -/
def pack_Head.f (a0 : Int) (a1 : Int) : Option (Int) := some (Go.bits .or .u64 (IntKind.u64.wrap (a1 * 4294967296)) ((wrap64 (a0 + 1)) % 4294967296))
set_option maxHeartbeats 8000000 in
set_option maxRecDepth 100000 in
theorem pack_Head.calls (a0 : Int) (a1 : Int) (r : Int) (w : World) (h : pack_Head.f a0 a1 = some r) :
    Calls Try.prog 7 #[.int .i64 a0, .int .u64 a1] w fun e w' => e = .returned (.int .u64 r) ∧ Drawn0 w w' := by
  have H : (some (Go.bits .or .u64 (IntKind.u64.wrap (a1 * 4294967296)) ((wrap64 (a0 + 1)) % 4294967296))) = some r := h
  clear h
  obtain rfl := Option.some.inj H
  go_enter Try.func7, Try.ntmps7
  go_wp2
  go_ret
  exact ⟨by first | rfl | (simp; done) | (simp [*]; done), by repeat (first | exact Drawn0.refl _ | apply Drawn0.step)⟩

/-! ### pack_Ticket: function 15 -/
def pack_Ticket.f (a0 : Int) (a1 : Int) : Option (Int) := some (Go.bits .or .u64 (IntKind.u64.wrap (a1 * 65536)) (IntKind.u64.wrap (IntKind.u16.wrap (wrap64 (a0 + 1)))))
set_option maxHeartbeats 8000000 in
set_option maxRecDepth 100000 in
theorem pack_Ticket.calls (a0 : Int) (a1 : Int) (r : Int) (w : World) (h : pack_Ticket.f a0 a1 = some r) :
    Calls Try.prog 15 #[.int .i64 a0, .int .u64 a1] w fun e w' => e = .returned (.int .u64 r) ∧ Drawn0 w w' := by
  have H : (some (Go.bits .or .u64 (IntKind.u64.wrap (a1 * 65536)) (IntKind.u64.wrap (IntKind.u16.wrap (wrap64 (a0 + 1)))))) = some r := h
  clear h
  obtain rfl := Option.some.inj H
  go_enter Try.func15, Try.ntmps15
  go_wp2
  go_ret
  exact ⟨by first | rfl | (simp; done) | (simp [*]; done), by repeat (first | exact Drawn0.refl _ | apply Drawn0.step)⟩

/-! ### coatchecklaw01_awake: function 6 -/
def coatchecklaw01_awake.f  : Option (Bool) := (pack_Head.f 4 1).bind fun t101 => (if t101 = 4294967301 then ((pack_Ticket.f 2 3).bind fun t102 => (some (t102 == 196611))) else (some false))
set_option maxHeartbeats 8000000 in
set_option maxRecDepth 100000 in
theorem coatchecklaw01_awake.calls  (r : Bool) (w : World) (h : coatchecklaw01_awake.f  = some r) :
    Calls Try.prog 6 #[] w fun e w' => e = .returned (.bool r) ∧ Drawn0 w w' := by
  have H : ((pack_Head.f 4 1).bind fun t101 => (if t101 = 4294967301 then ((pack_Ticket.f 2 3).bind fun t102 => (some (t102 == 196611))) else (some false))) = some r := h
  clear h
  replace H := Option.bind_eq_some_iff.mp H
  obtain ⟨t101, A10, H⟩ := H
  replace H : (if t101 = 4294967301 then ((pack_Ticket.f 2 3).bind fun t102 => (some (t102 == 196611))) else (some false)) = some r := H
  have A1 := Aside0.mk A10
  clear A10
  by_cases c2 : t101 = 4294967301
  · rw [if_pos c2] at H
    have c2b0 : (t101 == 4294967301) = true := beq_iff_eq.mpr c2
    have c2b1 : (t101 != 4294967301) = false := bne_eq_false_iff_eq.mpr c2
    clear c2
    replace H := Option.bind_eq_some_iff.mp H
    obtain ⟨t102, A30, H⟩ := H
    replace H : (some (t102 == 196611)) = some r := H
    have A3 := Aside0.mk A30
    clear A30
    obtain rfl := Option.some.inj H
    go_enter Try.func6, Try.ntmps6
    go_wp2_with (first | ((with_reducible refine gate_callee (f := 7) rfl ?_); refine goesL_ (some 1) rfl rfl Try.func7 (by kernel_rfl) rfl #[.int .i64 4, .int .u64 1] rfl (by (try simp only [List.map_toArray, List.map_cons, List.map_nil]); first | done | rfl | (simp only [List.length_drop, List.length_take]; rfl)) ?_; (with_reducible refine (pack_Head.calls 4 1 t101 _ A1.out).mono ?_); rintro e w' ⟨rfl, ⟨nd, rfl⟩⟩; refine ⟨_, rfl, ?_⟩) | (go_at_call 15; (with_reducible refine (pack_Ticket.calls 2 3 t102 _ A3.out).mono ?_); rintro e w' ⟨rfl, ⟨nd, rfl⟩⟩))
    go_ret
    exact ⟨by first | rfl | (simp; done) | (simp [*]; done), by repeat (first | exact Drawn0.refl _ | apply Drawn0.step)⟩
  · rw [if_neg c2] at H
    have c2b0 : (t101 == 4294967301) = false := beq_eq_false_iff_ne.mpr c2
    have c2b1 : (t101 != 4294967301) = true := bne_iff_ne.mpr c2
    obtain rfl := Option.some.inj H
    go_enter Try.func6, Try.ntmps6
    go_wp2_with (first | ((with_reducible refine gate_callee (f := 7) rfl ?_); refine goesL_ (some 1) rfl rfl Try.func7 (by kernel_rfl) rfl #[.int .i64 4, .int .u64 1] rfl (by (try simp only [List.map_toArray, List.map_cons, List.map_nil]); first | done | rfl | (simp only [List.length_drop, List.length_take]; rfl)) ?_; (with_reducible refine (pack_Head.calls 4 1 t101 _ A1.out).mono ?_); rintro e w' ⟨rfl, ⟨nd, rfl⟩⟩; refine ⟨_, rfl, ?_⟩))
    go_ret
    exact ⟨by first | rfl | (simp; done) | (simp [*]; done), by repeat (first | exact Drawn0.refl _ | apply Drawn0.step)⟩

/-! ### pack_Entry: function 9 -/
def pack_Entry.f (a0 : Int) (a1 : Int) (a2 : Int) : Option (Int) := some (Go.bits .or .u64 (Go.bits .or .u64 (IntKind.u64.wrap (a0 * 1048576)) (IntKind.u64.wrap ((IntKind.u64.wrap (IntKind.u16.wrap (wrap64 (a1 + 1)))) * 16))) (((((a2) % 256) * 16) % 256) / 16))
set_option maxHeartbeats 8000000 in
set_option maxRecDepth 100000 in
theorem pack_Entry.calls (a0 : Int) (a1 : Int) (a2 : Int) (r : Int) (w : World) (h : pack_Entry.f a0 a1 a2 = some r) :
    Calls Try.prog 9 #[.int .u64 a0, .int .i64 a1, .int .i64 a2] w fun e w' => e = .returned (.int .u64 r) ∧ Drawn0 w w' := by
  have H : (some (Go.bits .or .u64 (Go.bits .or .u64 (IntKind.u64.wrap (a0 * 1048576)) (IntKind.u64.wrap ((IntKind.u64.wrap (IntKind.u16.wrap (wrap64 (a1 + 1)))) * 16))) (((((a2) % 256) * 16) % 256) / 16))) = some r := h
  clear h
  obtain rfl := Option.some.inj H
  go_enter Try.func9, Try.ntmps9
  go_wp2
  go_ret
  exact ⟨by first | rfl | (simp; done) | (simp [*]; done), by repeat (first | exact Drawn0.refl _ | apply Drawn0.step)⟩

/-! ### pack_Announce: function 11 -/
def pack_Announce.f (a0 : Int) (a1 : Bool) : Option (Int) := if a1 = true then (some (Go.bits .or .u64 (IntKind.u64.wrap (a0 * 2)) 1)) else (some (IntKind.u64.wrap (a0 * 2)))
set_option maxHeartbeats 8000000 in
set_option maxRecDepth 100000 in
theorem pack_Announce.calls (a0 : Int) (a1 : Bool) (r : Int) (w : World) (h : pack_Announce.f a0 a1 = some r) :
    Calls Try.prog 11 #[.int .u64 a0, .bool a1] w fun e w' => e = .returned (.int .u64 r) ∧ Drawn0 w w' := by
  have H : (if a1 = true then (some (Go.bits .or .u64 (IntKind.u64.wrap (a0 * 2)) 1)) else (some (IntKind.u64.wrap (a0 * 2)))) = some r := h
  clear h
  by_cases c3 : a1 = true
  · subst c3
    have H1 : (some (Go.bits .or .u64 (IntKind.u64.wrap (a0 * 2)) 1)) = some r := by rw [if_pos rfl] at H; exact H
    clear H
    have H := H1
    clear H1
    obtain rfl := Option.some.inj H
    go_enter Try.func11, Try.ntmps11
    go_wp2
    go_ret
    exact ⟨by first | rfl | (simp; done) | (simp [*]; done), by repeat (first | exact Drawn0.refl _ | apply Drawn0.step)⟩
  · replace c3 := Bool.eq_false_iff.mpr c3
    subst c3
    have H1 : (some (IntKind.u64.wrap (a0 * 2))) = some r := by rw [if_neg (show ¬ (false = true) by decide)] at H; exact H
    clear H
    have H := H1
    clear H1
    obtain rfl := Option.some.inj H
    go_enter Try.func11, Try.ntmps11
    go_wp2
    go_ret
    exact ⟨by first | rfl | (simp; done) | (simp [*]; done), by repeat (first | exact Drawn0.refl _ | apply Drawn0.step)⟩

/-! ### pack_Slab: function 13 -/
def pack_Slab.f (a0 : Int) (a1 : Int) (a2 : Int) : Option (Int) := some (Go.bits .or .u64 (Go.bits .or .u64 (IntKind.u64.wrap (a2 * 65536)) (IntKind.u64.wrap (IntKind.u16.wrap ((IntKind.u16.wrap (a1)) * 16)))) (((((a0) % 256) * 16) % 256) / 16))
set_option maxHeartbeats 8000000 in
set_option maxRecDepth 100000 in
theorem pack_Slab.calls (a0 : Int) (a1 : Int) (a2 : Int) (r : Int) (w : World) (h : pack_Slab.f a0 a1 a2 = some r) :
    Calls Try.prog 13 #[.int .i64 a0, .int .i64 a1, .int .u64 a2] w fun e w' => e = .returned (.int .u64 r) ∧ Drawn0 w w' := by
  have H : (some (Go.bits .or .u64 (Go.bits .or .u64 (IntKind.u64.wrap (a2 * 65536)) (IntKind.u64.wrap (IntKind.u16.wrap ((IntKind.u16.wrap (a1)) * 16)))) (((((a0) % 256) * 16) % 256) / 16))) = some r := h
  clear h
  obtain rfl := Option.some.inj H
  go_enter Try.func13, Try.ntmps13
  go_wp2
  go_ret
  exact ⟨by first | rfl | (simp; done) | (simp [*]; done), by repeat (first | exact Drawn0.refl _ | apply Drawn0.step)⟩

/-! ### pack_Unhead: function 17 -/
def pack_Unhead.f (a0 : Int) : Option (Int × Int) := some (((a0) % 4294967296) - 1, a0 / 4294967296)
set_option maxHeartbeats 8000000 in
set_option maxRecDepth 100000 in
theorem pack_Unhead.calls (a0 : Int) (r1 : Int) (r2 : Int) (w : World) (h : pack_Unhead.f a0 = some (r1, r2)) :
    Calls Try.prog 17 #[.int .u64 a0] w fun e w' => e = .returned (.tuple #[.int .i64 r1, .int .u64 r2]) ∧ Drawn0 w w' := by
  have H : (some (((a0) % 4294967296) - 1, a0 / 4294967296)) = some (r1, r2) := h
  clear h
  simp only [Option.some.injEq, Prod.mk.injEq] at H
  obtain ⟨rfl, rfl⟩ := H
  go_enter Try.func17, Try.ntmps17
  go_wp2
  go_ret2
  exact ⟨by first | rfl | (simp; done) | (simp [*]; done), by repeat (first | exact Drawn0.refl _ | apply Drawn0.step)⟩

/-! ### coatcheckref01_Low: function 26 -/
def coatcheckref01_Low.l0 : Nat → Int → Int → Int → Int → Option (Int)
  | 0, _, _, _, _ => none
  | k + 1, x0, x1, x5, x6 => if x6 < x1 then (coatcheckref01_Low.l0 k x0 x1 (IntKind.u64.wrap (x5 * 2)) (wrap64 (x6 + 1))) else (if x1 > 63 then (some x0) else (if x5 = 0 then (none) else (some (Int.tmod x0 x5))))
def coatcheckref01_Low.f (k : Nat) (a0 : Int) (a1 : Int) : Option (Int) := coatcheckref01_Low.l0 k a0 a1 1 0
theorem coatcheckref01_Low.mono_l : ∀ k, (∀ y0 y1 y2 y3, LeO (coatcheckref01_Low.l0 k y0 y1 y2 y3) (coatcheckref01_Low.l0 (k + 1) y0 y1 y2 y3))
  | 0 => fun _ _ _ _ r h => by simp [coatcheckref01_Low.l0] at h
  | k + 1 => by
    have ih0 := coatcheckref01_Low.mono_l k
    · intro y0 y1 y2 y3
      unfold coatcheckref01_Low.l0
      repeat' first
      | (with_reducible exact ih0 _ _ _ _)
      | (with_reducible exact LeO.refl _)
      | (with_reducible exact LeO.none _)
      | (with_reducible refine LeO.ite ?_ ?_)
      | (with_reducible refine LeO.bind ?_ (fun _ => ?_))
      | exact ih0 _ _ _ _
      | exact LeO.none _
      | refine LeO.ite ?_ ?_
      | refine LeO.bind ?_ (fun _ => ?_)
theorem coatcheckref01_Low.mono : ∀ a0 a1 k, LeO (coatcheckref01_Low.f k a0 a1) (coatcheckref01_Low.f (k + 1) a0 a1) := by
  intro a0 a1 k
  have ih0 := coatcheckref01_Low.mono_l k
  unfold coatcheckref01_Low.f
  repeat' first
      | (with_reducible exact ih0 _ _ _ _)
      | (with_reducible exact LeO.refl _)
      | (with_reducible exact LeO.none _)
      | (with_reducible refine LeO.ite ?_ ?_)
      | (with_reducible refine LeO.bind ?_ (fun _ => ?_))
      | exact ih0 _ _ _ _
      | exact LeO.none _
      | refine LeO.ite ?_ ?_
      | refine LeO.bind ?_ (fun _ => ?_)
set_option maxHeartbeats 8000000 in
set_option maxRecDepth 100000 in
theorem coatcheckref01_Low.calls (k : Nat) (a0 : Int) (a1 : Int) (r : Int) (w : World) (h : coatcheckref01_Low.f k a0 a1 = some r) :
    Calls Try.prog 26 #[.int .u64 a0, .int .i64 a1] w fun e w' => e = .returned (.int .u64 r) ∧ Drawn0 w w' := by
  have H : (coatcheckref01_Low.l0 k a0 a1 1 0) = some r := h
  clear h
  have H' := Aside0.mk H
  clear H
  go_enter Try.func26, Try.ntmps26
  go_wp2
  go_loopg [5, 6] k (fun kq v5 v6 w' => ∃ (x5_1 : Int) (x6_1 : Int), v5 = .int .u64 x5_1 ∧ v6 = .int .i64 x6_1 ∧ Aside0 (coatcheckref01_Low.l0 kq a0 a1 x5_1 x6_1 = some r) ∧ Aside0 (kq ≤ k) ∧ Drawn0 w w')
  case atStart => exact ⟨(1), (0), (by first | rfl | (simp; done) | (simp [*]; done)), (by first | rfl | (simp; done) | (simp [*]; done)), H', ⟨Nat.le_refl _⟩, by repeat (first | exact Drawn0.refl _ | apply Drawn0.step)⟩
  case round =>
    clear H'
    try clear c2
    try clear p2
    obtain ⟨x5_1, x6_1, rfl, rfl, HA, HK1, ⟨m1, rfl⟩⟩ := hrel
    cases gk with
    | zero => exact absurd HA.out (by simp [coatcheckref01_Low.l0])
    | succ k1 =>
      have H := HA.out
      clear HA
      simp only [coatcheckref01_Low.l0] at H
      by_cases c3 : x6_1 < a1
      · rw [if_pos c3] at H
        have c3b0 : decide (x6_1 < a1) = true := decide_eq_true c3
        clear c3
        have H' := Aside0.mk H
        clear H
        go_wp2
        go_roundg k1
        case measure => have := HK1.out; omega
        case rel => exact ⟨(IntKind.u64.wrap (x5_1 * 2)), (wrap64 (x6_1 + 1)), (by first | rfl | (simp; done) | (simp [*]; done)), (by first | rfl | (simp; done) | (simp [*]; done)), H', ⟨by have := HK1.out; omega⟩, by repeat (first | exact Drawn0.refl _ | apply Drawn0.step)⟩
      · rw [if_neg c3] at H
        have c3b0 : decide (x6_1 < a1) = false := decide_eq_false c3
        clear c3
        by_cases c4 : a1 > 63
        · rw [if_pos c4] at H
          have c4b0 : decide (63 < a1) = true := decide_eq_true c4
          clear c4
          obtain rfl := Option.some.inj H
          go_wp2
          go_ret
          exact ⟨by first | rfl | (simp; done) | (simp [*]; done), by repeat (first | exact Drawn0.refl _ | apply Drawn0.step)⟩
        · rw [if_neg c4] at H
          have c4b0 : decide (63 < a1) = false := decide_eq_false c4
          clear c4
          by_cases c5 : x5_1 = 0
          · rw [if_pos c5] at H
            exact absurd H (by simp)
          · rw [if_neg c5] at H
            have c5b0 : (x5_1 == 0) = false := beq_eq_false_iff_ne.mpr c5
            have c5b1 : (x5_1 != 0) = true := bne_iff_ne.mpr c5
            obtain rfl := Option.some.inj H
            go_wp2
            go_ret
            exact ⟨by first | rfl | (simp; done) | (simp [*]; done), by repeat (first | exact Drawn0.refl _ | apply Drawn0.step)⟩

/-! ### coatcheckref01_power: function 27 -/
def coatcheckref01_power.l0 : Nat → Int → Int → Int → Option (Int)
  | 0, _, _, _ => none
  | k + 1, x0, x3, x4 => if x4 < x0 then (coatcheckref01_power.l0 k x0 (IntKind.u64.wrap (x3 * 2)) (wrap64 (x4 + 1))) else (some x3)
def coatcheckref01_power.f (k : Nat) (a0 : Int) : Option (Int) := coatcheckref01_power.l0 k a0 1 0
theorem coatcheckref01_power.mono_l : ∀ k, (∀ y0 y1 y2, LeO (coatcheckref01_power.l0 k y0 y1 y2) (coatcheckref01_power.l0 (k + 1) y0 y1 y2))
  | 0 => fun _ _ _ r h => by simp [coatcheckref01_power.l0] at h
  | k + 1 => by
    have ih0 := coatcheckref01_power.mono_l k
    · intro y0 y1 y2
      unfold coatcheckref01_power.l0
      repeat' first
      | (with_reducible exact ih0 _ _ _)
      | (with_reducible exact LeO.refl _)
      | (with_reducible exact LeO.none _)
      | (with_reducible refine LeO.ite ?_ ?_)
      | (with_reducible refine LeO.bind ?_ (fun _ => ?_))
      | exact ih0 _ _ _
      | exact LeO.none _
      | refine LeO.ite ?_ ?_
      | refine LeO.bind ?_ (fun _ => ?_)
theorem coatcheckref01_power.mono : ∀ a0 k, LeO (coatcheckref01_power.f k a0) (coatcheckref01_power.f (k + 1) a0) := by
  intro a0 k
  have ih0 := coatcheckref01_power.mono_l k
  unfold coatcheckref01_power.f
  repeat' first
      | (with_reducible exact ih0 _ _ _)
      | (with_reducible exact LeO.refl _)
      | (with_reducible exact LeO.none _)
      | (with_reducible refine LeO.ite ?_ ?_)
      | (with_reducible refine LeO.bind ?_ (fun _ => ?_))
      | exact ih0 _ _ _
      | exact LeO.none _
      | refine LeO.ite ?_ ?_
      | refine LeO.bind ?_ (fun _ => ?_)
set_option maxHeartbeats 8000000 in
set_option maxRecDepth 100000 in
theorem coatcheckref01_power.calls (k : Nat) (a0 : Int) (r : Int) (w : World) (h : coatcheckref01_power.f k a0 = some r) :
    Calls Try.prog 27 #[.int .i64 a0] w fun e w' => e = .returned (.int .u64 r) ∧ Drawn0 w w' := by
  have H : (coatcheckref01_power.l0 k a0 1 0) = some r := h
  clear h
  have H' := Aside0.mk H
  clear H
  go_enter Try.func27, Try.ntmps27
  go_wp2
  go_loopg [3, 4] k (fun kq v3 v4 w' => ∃ (x3_1 : Int) (x4_1 : Int), v3 = .int .u64 x3_1 ∧ v4 = .int .i64 x4_1 ∧ Aside0 (coatcheckref01_power.l0 kq a0 x3_1 x4_1 = some r) ∧ Aside0 (kq ≤ k) ∧ Drawn0 w w')
  case atStart => exact ⟨(1), (0), (by first | rfl | (simp; done) | (simp [*]; done)), (by first | rfl | (simp; done) | (simp [*]; done)), H', ⟨Nat.le_refl _⟩, by repeat (first | exact Drawn0.refl _ | apply Drawn0.step)⟩
  case round =>
    clear H'
    obtain ⟨x3_1, x4_1, rfl, rfl, HA, HK1, ⟨m1, rfl⟩⟩ := hrel
    cases gk with
    | zero => exact absurd HA.out (by simp [coatcheckref01_power.l0])
    | succ k1 =>
      have H := HA.out
      clear HA
      simp only [coatcheckref01_power.l0] at H
      by_cases c2 : x4_1 < a0
      · rw [if_pos c2] at H
        have c2b0 : decide (x4_1 < a0) = true := decide_eq_true c2
        clear c2
        have H' := Aside0.mk H
        clear H
        go_wp2
        go_roundg k1
        case measure => have := HK1.out; omega
        case rel => exact ⟨(IntKind.u64.wrap (x3_1 * 2)), (wrap64 (x4_1 + 1)), (by first | rfl | (simp; done) | (simp [*]; done)), (by first | rfl | (simp; done) | (simp [*]; done)), H', ⟨by have := HK1.out; omega⟩, by repeat (first | exact Drawn0.refl _ | apply Drawn0.step)⟩
      · rw [if_neg c2] at H
        have c2b0 : decide (x4_1 < a0) = false := decide_eq_false c2
        clear c2
        obtain rfl := Option.some.inj H
        go_wp2
        go_ret
        exact ⟨by first | rfl | (simp; done) | (simp [*]; done), by repeat (first | exact Drawn0.refl _ | apply Drawn0.step)⟩

/-! ### coatcheckref01_Unhead: function 18 -/
def coatcheckref01_Unhead.f (k : Nat) (a0 : Int) : Option (Int × Int) := (coatcheckref01_Low.f k a0 32).bind fun t103 => ((coatcheckref01_power.f k 32).bind fun t104 => (if t104 = 0 then (none) else (some (wrap64 ((wrap64 (t103)) - 1), IntKind.u64.wrap (Int.tdiv a0 t104)))))
theorem coatcheckref01_Unhead.mono : ∀ a0 k, LeO (coatcheckref01_Unhead.f k a0) (coatcheckref01_Unhead.f (k + 1) a0) := by
  intro a0 k
  unfold coatcheckref01_Unhead.f
  repeat' first
      | (with_reducible exact coatcheckref01_Low.mono _ _ _)
      | (with_reducible exact coatcheckref01_power.mono _ _)
      | (with_reducible exact LeO.refl _)
      | (with_reducible exact LeO.none _)
      | (with_reducible refine LeO.ite ?_ ?_)
      | (with_reducible refine LeO.bind ?_ (fun _ => ?_))
      | exact coatcheckref01_Low.mono _ _ _
      | exact coatcheckref01_power.mono _ _
      | exact LeO.none _
      | refine LeO.ite ?_ ?_
      | refine LeO.bind ?_ (fun _ => ?_)
set_option maxHeartbeats 8000000 in
set_option maxRecDepth 100000 in
theorem coatcheckref01_Unhead.calls (k : Nat) (a0 : Int) (r1 : Int) (r2 : Int) (w : World) (h : coatcheckref01_Unhead.f k a0 = some (r1, r2)) :
    Calls Try.prog 18 #[.int .u64 a0] w fun e w' => e = .returned (.tuple #[.int .i64 r1, .int .u64 r2]) ∧ Drawn0 w w' := by
  have H : ((coatcheckref01_Low.f k a0 32).bind fun t103 => ((coatcheckref01_power.f k 32).bind fun t104 => (if t104 = 0 then (none) else (some (wrap64 ((wrap64 (t103)) - 1), IntKind.u64.wrap (Int.tdiv a0 t104)))))) = some (r1, r2) := h
  clear h
  replace H := Option.bind_eq_some_iff.mp H
  obtain ⟨t103, A20, H⟩ := H
  replace H : ((coatcheckref01_power.f k 32).bind fun t104 => (if t104 = 0 then (none) else (some (wrap64 ((wrap64 (t103)) - 1), IntKind.u64.wrap (Int.tdiv a0 t104))))) = some (r1, r2) := H
  have A2 := Aside0.mk A20
  clear A20
  replace H := Option.bind_eq_some_iff.mp H
  obtain ⟨t104, A30, H⟩ := H
  replace H : (if t104 = 0 then (none) else (some (wrap64 ((wrap64 (t103)) - 1), IntKind.u64.wrap (Int.tdiv a0 t104)))) = some (r1, r2) := H
  have A3 := Aside0.mk A30
  clear A30
  by_cases c4 : t104 = 0
  · rw [if_pos c4] at H
    exact absurd H (by simp)
  · rw [if_neg c4] at H
    have c4b0 : (t104 == 0) = false := beq_eq_false_iff_ne.mpr c4
    have c4b1 : (t104 != 0) = true := bne_iff_ne.mpr c4
    simp only [Option.some.injEq, Prod.mk.injEq] at H
    obtain ⟨rfl, rfl⟩ := H
    go_enter Try.func18, Try.ntmps18
    go_wp2_with (first | (go_at_call 26; (with_reducible refine (coatcheckref01_Low.calls k a0 32 t103 _ A2.out).mono ?_); rintro e w' ⟨rfl, ⟨nd, rfl⟩⟩; (try first | exact ⟨rfl, _, World.drewN_drewN _ _ _⟩ | exact ⟨rfl, _, Eq.trans (World.drewN_drewN _ _ _) (congrArg (World.drewN _) (Nat.add_assoc _ _ _))⟩)) | (go_at_call 27; (with_reducible refine (coatcheckref01_power.calls k 32 t104 _ A3.out).mono ?_); rintro e w' ⟨rfl, ⟨nd, rfl⟩⟩; (try first | exact ⟨rfl, _, World.drewN_drewN _ _ _⟩ | exact ⟨rfl, _, Eq.trans (World.drewN_drewN _ _ _) (congrArg (World.drewN _) (Nat.add_assoc _ _ _))⟩)))
    repeat (go_quiet (first | (go_at_call 26; (with_reducible refine (coatcheckref01_Low.calls k a0 32 t103 _ A2.out).mono ?_); rintro e w' ⟨rfl, ⟨nd, rfl⟩⟩; (try first | exact ⟨rfl, _, World.drewN_drewN _ _ _⟩ | exact ⟨rfl, _, Eq.trans (World.drewN_drewN _ _ _) (congrArg (World.drewN _) (Nat.add_assoc _ _ _))⟩)) | (go_at_call 27; (with_reducible refine (coatcheckref01_power.calls k 32 t104 _ A3.out).mono ?_); rintro e w' ⟨rfl, ⟨nd, rfl⟩⟩; (try first | exact ⟨rfl, _, World.drewN_drewN _ _ _⟩ | exact ⟨rfl, _, Eq.trans (World.drewN_drewN _ _ _) (congrArg (World.drewN _) (Nat.add_assoc _ _ _))⟩))); try go_wp2_with (first | (go_at_call 26; (with_reducible refine (coatcheckref01_Low.calls k a0 32 t103 _ A2.out).mono ?_); rintro e w' ⟨rfl, ⟨nd, rfl⟩⟩; (try first | exact ⟨rfl, _, World.drewN_drewN _ _ _⟩ | exact ⟨rfl, _, Eq.trans (World.drewN_drewN _ _ _) (congrArg (World.drewN _) (Nat.add_assoc _ _ _))⟩)) | (go_at_call 27; (with_reducible refine (coatcheckref01_power.calls k 32 t104 _ A3.out).mono ?_); rintro e w' ⟨rfl, ⟨nd, rfl⟩⟩; (try first | exact ⟨rfl, _, World.drewN_drewN _ _ _⟩ | exact ⟨rfl, _, Eq.trans (World.drewN_drewN _ _ _) (congrArg (World.drewN _) (Nat.add_assoc _ _ _))⟩))))
    go_ret2
    exact ⟨by first | rfl | (simp; done) | (simp [*]; done), by repeat (first | exact Drawn0.refl _ | apply Drawn0.step)⟩

/-! ### pack_Unentry: function 19 -/
def pack_Unentry.f (a0 : Int) : Option (Int × Int × Int) := some (a0 / 1048576, wrap64 ((wrap64 (IntKind.u16.wrap (a0 / 16))) - 1), ((((a0) % 256) * 16) % 256) / 16)
set_option maxHeartbeats 8000000 in
set_option maxRecDepth 100000 in
theorem pack_Unentry.calls (a0 : Int) (r1 : Int) (r2 : Int) (r3 : Int) (w : World) (h : pack_Unentry.f a0 = some (r1, r2, r3)) :
    Calls Try.prog 19 #[.int .u64 a0] w fun e w' => e = .returned (.tuple #[.int .u64 r1, .int .i64 r2, .int .i64 r3]) ∧ Drawn0 w w' := by
  have H : (some (a0 / 1048576, wrap64 ((wrap64 (IntKind.u16.wrap (a0 / 16))) - 1), ((((a0) % 256) * 16) % 256) / 16)) = some (r1, r2, r3) := h
  clear h
  simp only [Option.some.injEq, Prod.mk.injEq] at H
  obtain ⟨rfl, rfl, rfl⟩ := H
  go_enter Try.func19, Try.ntmps19
  go_wp2
  go_ret3
  exact ⟨by first | rfl | (simp; done) | (simp [*]; done), by repeat (first | exact Drawn0.refl _ | apply Drawn0.step)⟩

/-! ### coatcheckref01_Unentry: function 20 -/
def coatcheckref01_Unentry.f (k : Nat) (a0 : Int) : Option (Int × Int × Int) := (coatcheckref01_power.f k 20).bind fun t105 => (if t105 = 0 then (none) else ((coatcheckref01_Low.f k (IntKind.u64.wrap (Int.tdiv a0 16)) 16).bind fun t106 => (some (IntKind.u64.wrap (Int.tdiv a0 t105), wrap64 ((wrap64 (t106)) - 1), wrap64 (Int.tmod a0 16)))))
theorem coatcheckref01_Unentry.mono : ∀ a0 k, LeO (coatcheckref01_Unentry.f k a0) (coatcheckref01_Unentry.f (k + 1) a0) := by
  intro a0 k
  unfold coatcheckref01_Unentry.f
  repeat' first
      | (with_reducible exact coatcheckref01_Low.mono _ _ _)
      | (with_reducible exact coatcheckref01_power.mono _ _)
      | (with_reducible exact LeO.refl _)
      | (with_reducible exact LeO.none _)
      | (with_reducible refine LeO.ite ?_ ?_)
      | (with_reducible refine LeO.bind ?_ (fun _ => ?_))
      | exact coatcheckref01_Low.mono _ _ _
      | exact coatcheckref01_power.mono _ _
      | exact LeO.none _
      | refine LeO.ite ?_ ?_
      | refine LeO.bind ?_ (fun _ => ?_)
set_option maxHeartbeats 8000000 in
set_option maxRecDepth 100000 in
theorem coatcheckref01_Unentry.calls (k : Nat) (a0 : Int) (r1 : Int) (r2 : Int) (r3 : Int) (w : World) (h : coatcheckref01_Unentry.f k a0 = some (r1, r2, r3)) :
    Calls Try.prog 20 #[.int .u64 a0] w fun e w' => e = .returned (.tuple #[.int .u64 r1, .int .i64 r2, .int .i64 r3]) ∧ Drawn0 w w' := by
  have H : ((coatcheckref01_power.f k 20).bind fun t105 => (if t105 = 0 then (none) else ((coatcheckref01_Low.f k (IntKind.u64.wrap (Int.tdiv a0 16)) 16).bind fun t106 => (some (IntKind.u64.wrap (Int.tdiv a0 t105), wrap64 ((wrap64 (t106)) - 1), wrap64 (Int.tmod a0 16)))))) = some (r1, r2, r3) := h
  clear h
  replace H := Option.bind_eq_some_iff.mp H
  obtain ⟨t105, A20, H⟩ := H
  replace H : (if t105 = 0 then (none) else ((coatcheckref01_Low.f k (IntKind.u64.wrap (Int.tdiv a0 16)) 16).bind fun t106 => (some (IntKind.u64.wrap (Int.tdiv a0 t105), wrap64 ((wrap64 (t106)) - 1), wrap64 (Int.tmod a0 16))))) = some (r1, r2, r3) := H
  have A2 := Aside0.mk A20
  clear A20
  by_cases c3 : t105 = 0
  · rw [if_pos c3] at H
    exact absurd H (by simp)
  · rw [if_neg c3] at H
    have c3b0 : (t105 == 0) = false := beq_eq_false_iff_ne.mpr c3
    have c3b1 : (t105 != 0) = true := bne_iff_ne.mpr c3
    replace H := Option.bind_eq_some_iff.mp H
    obtain ⟨t106, A40, H⟩ := H
    replace H : (some (IntKind.u64.wrap (Int.tdiv a0 t105), wrap64 ((wrap64 (t106)) - 1), wrap64 (Int.tmod a0 16))) = some (r1, r2, r3) := H
    have A4 := Aside0.mk A40
    clear A40
    simp only [Option.some.injEq, Prod.mk.injEq] at H
    obtain ⟨rfl, rfl, rfl⟩ := H
    go_enter Try.func20, Try.ntmps20
    go_wp2_with (first | (go_at_call 27; (with_reducible refine (coatcheckref01_power.calls k 20 t105 _ A2.out).mono ?_); rintro e w' ⟨rfl, ⟨nd, rfl⟩⟩; (try first | exact ⟨rfl, _, World.drewN_drewN _ _ _⟩ | exact ⟨rfl, _, Eq.trans (World.drewN_drewN _ _ _) (congrArg (World.drewN _) (Nat.add_assoc _ _ _))⟩)) | (go_at_call 26; (with_reducible refine (coatcheckref01_Low.calls k (IntKind.u64.wrap (Int.tdiv a0 16)) 16 t106 _ A4.out).mono ?_); rintro e w' ⟨rfl, ⟨nd, rfl⟩⟩; (try first | exact ⟨rfl, _, World.drewN_drewN _ _ _⟩ | exact ⟨rfl, _, Eq.trans (World.drewN_drewN _ _ _) (congrArg (World.drewN _) (Nat.add_assoc _ _ _))⟩)))
    repeat (go_quiet (first | (go_at_call 27; (with_reducible refine (coatcheckref01_power.calls k 20 t105 _ A2.out).mono ?_); rintro e w' ⟨rfl, ⟨nd, rfl⟩⟩; (try first | exact ⟨rfl, _, World.drewN_drewN _ _ _⟩ | exact ⟨rfl, _, Eq.trans (World.drewN_drewN _ _ _) (congrArg (World.drewN _) (Nat.add_assoc _ _ _))⟩)) | (go_at_call 26; (with_reducible refine (coatcheckref01_Low.calls k (IntKind.u64.wrap (Int.tdiv a0 16)) 16 t106 _ A4.out).mono ?_); rintro e w' ⟨rfl, ⟨nd, rfl⟩⟩; (try first | exact ⟨rfl, _, World.drewN_drewN _ _ _⟩ | exact ⟨rfl, _, Eq.trans (World.drewN_drewN _ _ _) (congrArg (World.drewN _) (Nat.add_assoc _ _ _))⟩))); try go_wp2_with (first | (go_at_call 27; (with_reducible refine (coatcheckref01_power.calls k 20 t105 _ A2.out).mono ?_); rintro e w' ⟨rfl, ⟨nd, rfl⟩⟩; (try first | exact ⟨rfl, _, World.drewN_drewN _ _ _⟩ | exact ⟨rfl, _, Eq.trans (World.drewN_drewN _ _ _) (congrArg (World.drewN _) (Nat.add_assoc _ _ _))⟩)) | (go_at_call 26; (with_reducible refine (coatcheckref01_Low.calls k (IntKind.u64.wrap (Int.tdiv a0 16)) 16 t106 _ A4.out).mono ?_); rintro e w' ⟨rfl, ⟨nd, rfl⟩⟩; (try first | exact ⟨rfl, _, World.drewN_drewN _ _ _⟩ | exact ⟨rfl, _, Eq.trans (World.drewN_drewN _ _ _) (congrArg (World.drewN _) (Nat.add_assoc _ _ _))⟩))))
    go_ret3
    exact ⟨by first | rfl | (simp; done) | (simp [*]; done), by repeat (first | exact Drawn0.refl _ | apply Drawn0.step)⟩

/-! ### pack_Unannounce: function 21 -/
def pack_Unannounce.f (a0 : Int) : Option (Int × Bool) := some (a0 / 2, ((Go.bits .and .u64 a0 1) == 1))
set_option maxHeartbeats 8000000 in
set_option maxRecDepth 100000 in
theorem pack_Unannounce.calls (a0 : Int) (r1 : Int) (r2 : Bool) (w : World) (h : pack_Unannounce.f a0 = some (r1, r2)) :
    Calls Try.prog 21 #[.int .u64 a0] w fun e w' => e = .returned (.tuple #[.int .u64 r1, .bool r2]) ∧ Drawn0 w w' := by
  have H : (some (a0 / 2, ((Go.bits .and .u64 a0 1) == 1))) = some (r1, r2) := h
  clear h
  simp only [Option.some.injEq, Prod.mk.injEq] at H
  obtain ⟨rfl, rfl⟩ := H
  go_enter Try.func21, Try.ntmps21
  go_wp2
  go_ret2
  exact ⟨by first | rfl | (simp; done) | (simp [*]; done), by repeat (first | exact Drawn0.refl _ | apply Drawn0.step)⟩

/-! ### pack_Unslab: function 22 -/
def pack_Unslab.f (a0 : Int) : Option (Int × Int × Int) := some (((((a0) % 256) * 16) % 256) / 16, wrap64 ((IntKind.u16.wrap (a0)) / 16), a0 / 65536)
set_option maxHeartbeats 8000000 in
set_option maxRecDepth 100000 in
theorem pack_Unslab.calls (a0 : Int) (r1 : Int) (r2 : Int) (r3 : Int) (w : World) (h : pack_Unslab.f a0 = some (r1, r2, r3)) :
    Calls Try.prog 22 #[.int .u64 a0] w fun e w' => e = .returned (.tuple #[.int .i64 r1, .int .i64 r2, .int .u64 r3]) ∧ Drawn0 w w' := by
  have H : (some (((((a0) % 256) * 16) % 256) / 16, wrap64 ((IntKind.u16.wrap (a0)) / 16), a0 / 65536)) = some (r1, r2, r3) := h
  clear h
  simp only [Option.some.injEq, Prod.mk.injEq] at H
  obtain ⟨rfl, rfl, rfl⟩ := H
  go_enter Try.func22, Try.ntmps22
  go_wp2
  go_ret3
  exact ⟨by first | rfl | (simp; done) | (simp [*]; done), by repeat (first | exact Drawn0.refl _ | apply Drawn0.step)⟩

/-! ### coatcheckref01_Unslab: function 23 -/
def coatcheckref01_Unslab.f (k : Nat) (a0 : Int) : Option (Int × Int × Int) := (coatcheckref01_Low.f k (IntKind.u64.wrap (Int.tdiv a0 16)) 12).bind fun t107 => ((coatcheckref01_power.f k 16).bind fun t108 => (if t108 = 0 then (none) else (some (wrap64 (Int.tmod a0 16), wrap64 (t107), IntKind.u64.wrap (Int.tdiv a0 t108)))))
theorem coatcheckref01_Unslab.mono : ∀ a0 k, LeO (coatcheckref01_Unslab.f k a0) (coatcheckref01_Unslab.f (k + 1) a0) := by
  intro a0 k
  unfold coatcheckref01_Unslab.f
  repeat' first
      | (with_reducible exact coatcheckref01_Low.mono _ _ _)
      | (with_reducible exact coatcheckref01_power.mono _ _)
      | (with_reducible exact LeO.refl _)
      | (with_reducible exact LeO.none _)
      | (with_reducible refine LeO.ite ?_ ?_)
      | (with_reducible refine LeO.bind ?_ (fun _ => ?_))
      | exact coatcheckref01_Low.mono _ _ _
      | exact coatcheckref01_power.mono _ _
      | exact LeO.none _
      | refine LeO.ite ?_ ?_
      | refine LeO.bind ?_ (fun _ => ?_)
set_option maxHeartbeats 8000000 in
set_option maxRecDepth 100000 in
theorem coatcheckref01_Unslab.calls (k : Nat) (a0 : Int) (r1 : Int) (r2 : Int) (r3 : Int) (w : World) (h : coatcheckref01_Unslab.f k a0 = some (r1, r2, r3)) :
    Calls Try.prog 23 #[.int .u64 a0] w fun e w' => e = .returned (.tuple #[.int .i64 r1, .int .i64 r2, .int .u64 r3]) ∧ Drawn0 w w' := by
  have H : ((coatcheckref01_Low.f k (IntKind.u64.wrap (Int.tdiv a0 16)) 12).bind fun t107 => ((coatcheckref01_power.f k 16).bind fun t108 => (if t108 = 0 then (none) else (some (wrap64 (Int.tmod a0 16), wrap64 (t107), IntKind.u64.wrap (Int.tdiv a0 t108)))))) = some (r1, r2, r3) := h
  clear h
  replace H := Option.bind_eq_some_iff.mp H
  obtain ⟨t107, A20, H⟩ := H
  replace H : ((coatcheckref01_power.f k 16).bind fun t108 => (if t108 = 0 then (none) else (some (wrap64 (Int.tmod a0 16), wrap64 (t107), IntKind.u64.wrap (Int.tdiv a0 t108))))) = some (r1, r2, r3) := H
  have A2 := Aside0.mk A20
  clear A20
  replace H := Option.bind_eq_some_iff.mp H
  obtain ⟨t108, A30, H⟩ := H
  replace H : (if t108 = 0 then (none) else (some (wrap64 (Int.tmod a0 16), wrap64 (t107), IntKind.u64.wrap (Int.tdiv a0 t108)))) = some (r1, r2, r3) := H
  have A3 := Aside0.mk A30
  clear A30
  by_cases c4 : t108 = 0
  · rw [if_pos c4] at H
    exact absurd H (by simp)
  · rw [if_neg c4] at H
    have c4b0 : (t108 == 0) = false := beq_eq_false_iff_ne.mpr c4
    have c4b1 : (t108 != 0) = true := bne_iff_ne.mpr c4
    simp only [Option.some.injEq, Prod.mk.injEq] at H
    obtain ⟨rfl, rfl, rfl⟩ := H
    go_enter Try.func23, Try.ntmps23
    go_wp2_with (first | (go_at_call 26; (with_reducible refine (coatcheckref01_Low.calls k (IntKind.u64.wrap (Int.tdiv a0 16)) 12 t107 _ A2.out).mono ?_); rintro e w' ⟨rfl, ⟨nd, rfl⟩⟩; (try first | exact ⟨rfl, _, World.drewN_drewN _ _ _⟩ | exact ⟨rfl, _, Eq.trans (World.drewN_drewN _ _ _) (congrArg (World.drewN _) (Nat.add_assoc _ _ _))⟩)) | (go_at_call 27; (with_reducible refine (coatcheckref01_power.calls k 16 t108 _ A3.out).mono ?_); rintro e w' ⟨rfl, ⟨nd, rfl⟩⟩; (try first | exact ⟨rfl, _, World.drewN_drewN _ _ _⟩ | exact ⟨rfl, _, Eq.trans (World.drewN_drewN _ _ _) (congrArg (World.drewN _) (Nat.add_assoc _ _ _))⟩)))
    repeat (go_quiet (first | (go_at_call 26; (with_reducible refine (coatcheckref01_Low.calls k (IntKind.u64.wrap (Int.tdiv a0 16)) 12 t107 _ A2.out).mono ?_); rintro e w' ⟨rfl, ⟨nd, rfl⟩⟩; (try first | exact ⟨rfl, _, World.drewN_drewN _ _ _⟩ | exact ⟨rfl, _, Eq.trans (World.drewN_drewN _ _ _) (congrArg (World.drewN _) (Nat.add_assoc _ _ _))⟩)) | (go_at_call 27; (with_reducible refine (coatcheckref01_power.calls k 16 t108 _ A3.out).mono ?_); rintro e w' ⟨rfl, ⟨nd, rfl⟩⟩; (try first | exact ⟨rfl, _, World.drewN_drewN _ _ _⟩ | exact ⟨rfl, _, Eq.trans (World.drewN_drewN _ _ _) (congrArg (World.drewN _) (Nat.add_assoc _ _ _))⟩))); try go_wp2_with (first | (go_at_call 26; (with_reducible refine (coatcheckref01_Low.calls k (IntKind.u64.wrap (Int.tdiv a0 16)) 12 t107 _ A2.out).mono ?_); rintro e w' ⟨rfl, ⟨nd, rfl⟩⟩; (try first | exact ⟨rfl, _, World.drewN_drewN _ _ _⟩ | exact ⟨rfl, _, Eq.trans (World.drewN_drewN _ _ _) (congrArg (World.drewN _) (Nat.add_assoc _ _ _))⟩)) | (go_at_call 27; (with_reducible refine (coatcheckref01_power.calls k 16 t108 _ A3.out).mono ?_); rintro e w' ⟨rfl, ⟨nd, rfl⟩⟩; (try first | exact ⟨rfl, _, World.drewN_drewN _ _ _⟩ | exact ⟨rfl, _, Eq.trans (World.drewN_drewN _ _ _) (congrArg (World.drewN _) (Nat.add_assoc _ _ _))⟩))))
    go_ret3
    exact ⟨by first | rfl | (simp; done) | (simp [*]; done), by repeat (first | exact Drawn0.refl _ | apply Drawn0.step)⟩

/-! ### pack_Unticket: function 24 -/
def pack_Unticket.f (a0 : Int) : Option (Int × Int) := some (wrap64 ((wrap64 (IntKind.u16.wrap (a0))) - 1), a0 / 65536)
set_option maxHeartbeats 8000000 in
set_option maxRecDepth 100000 in
theorem pack_Unticket.calls (a0 : Int) (r1 : Int) (r2 : Int) (w : World) (h : pack_Unticket.f a0 = some (r1, r2)) :
    Calls Try.prog 24 #[.int .u64 a0] w fun e w' => e = .returned (.tuple #[.int .i64 r1, .int .u64 r2]) ∧ Drawn0 w w' := by
  have H : (some (wrap64 ((wrap64 (IntKind.u16.wrap (a0))) - 1), a0 / 65536)) = some (r1, r2) := h
  clear h
  simp only [Option.some.injEq, Prod.mk.injEq] at H
  obtain ⟨rfl, rfl⟩ := H
  go_enter Try.func24, Try.ntmps24
  go_wp2
  go_ret2
  exact ⟨by first | rfl | (simp; done) | (simp [*]; done), by repeat (first | exact Drawn0.refl _ | apply Drawn0.step)⟩

/-! ### coatcheckref01_Unticket: function 25 -/
def coatcheckref01_Unticket.f (k : Nat) (a0 : Int) : Option (Int × Int) := (coatcheckref01_Low.f k a0 16).bind fun t109 => ((coatcheckref01_power.f k 16).bind fun t110 => (if t110 = 0 then (none) else (some (wrap64 ((wrap64 (t109)) - 1), IntKind.u64.wrap (Int.tdiv a0 t110)))))
theorem coatcheckref01_Unticket.mono : ∀ a0 k, LeO (coatcheckref01_Unticket.f k a0) (coatcheckref01_Unticket.f (k + 1) a0) := by
  intro a0 k
  unfold coatcheckref01_Unticket.f
  repeat' first
      | (with_reducible exact coatcheckref01_Low.mono _ _ _)
      | (with_reducible exact coatcheckref01_power.mono _ _)
      | (with_reducible exact LeO.refl _)
      | (with_reducible exact LeO.none _)
      | (with_reducible refine LeO.ite ?_ ?_)
      | (with_reducible refine LeO.bind ?_ (fun _ => ?_))
      | exact coatcheckref01_Low.mono _ _ _
      | exact coatcheckref01_power.mono _ _
      | exact LeO.none _
      | refine LeO.ite ?_ ?_
      | refine LeO.bind ?_ (fun _ => ?_)
set_option maxHeartbeats 8000000 in
set_option maxRecDepth 100000 in
theorem coatcheckref01_Unticket.calls (k : Nat) (a0 : Int) (r1 : Int) (r2 : Int) (w : World) (h : coatcheckref01_Unticket.f k a0 = some (r1, r2)) :
    Calls Try.prog 25 #[.int .u64 a0] w fun e w' => e = .returned (.tuple #[.int .i64 r1, .int .u64 r2]) ∧ Drawn0 w w' := by
  have H : ((coatcheckref01_Low.f k a0 16).bind fun t109 => ((coatcheckref01_power.f k 16).bind fun t110 => (if t110 = 0 then (none) else (some (wrap64 ((wrap64 (t109)) - 1), IntKind.u64.wrap (Int.tdiv a0 t110)))))) = some (r1, r2) := h
  clear h
  replace H := Option.bind_eq_some_iff.mp H
  obtain ⟨t109, A20, H⟩ := H
  replace H : ((coatcheckref01_power.f k 16).bind fun t110 => (if t110 = 0 then (none) else (some (wrap64 ((wrap64 (t109)) - 1), IntKind.u64.wrap (Int.tdiv a0 t110))))) = some (r1, r2) := H
  have A2 := Aside0.mk A20
  clear A20
  replace H := Option.bind_eq_some_iff.mp H
  obtain ⟨t110, A30, H⟩ := H
  replace H : (if t110 = 0 then (none) else (some (wrap64 ((wrap64 (t109)) - 1), IntKind.u64.wrap (Int.tdiv a0 t110)))) = some (r1, r2) := H
  have A3 := Aside0.mk A30
  clear A30
  by_cases c4 : t110 = 0
  · rw [if_pos c4] at H
    exact absurd H (by simp)
  · rw [if_neg c4] at H
    have c4b0 : (t110 == 0) = false := beq_eq_false_iff_ne.mpr c4
    have c4b1 : (t110 != 0) = true := bne_iff_ne.mpr c4
    simp only [Option.some.injEq, Prod.mk.injEq] at H
    obtain ⟨rfl, rfl⟩ := H
    go_enter Try.func25, Try.ntmps25
    go_wp2_with (first | (go_at_call 26; (with_reducible refine (coatcheckref01_Low.calls k a0 16 t109 _ A2.out).mono ?_); rintro e w' ⟨rfl, ⟨nd, rfl⟩⟩; (try first | exact ⟨rfl, _, World.drewN_drewN _ _ _⟩ | exact ⟨rfl, _, Eq.trans (World.drewN_drewN _ _ _) (congrArg (World.drewN _) (Nat.add_assoc _ _ _))⟩)) | (go_at_call 27; (with_reducible refine (coatcheckref01_power.calls k 16 t110 _ A3.out).mono ?_); rintro e w' ⟨rfl, ⟨nd, rfl⟩⟩; (try first | exact ⟨rfl, _, World.drewN_drewN _ _ _⟩ | exact ⟨rfl, _, Eq.trans (World.drewN_drewN _ _ _) (congrArg (World.drewN _) (Nat.add_assoc _ _ _))⟩)))
    repeat (go_quiet (first | (go_at_call 26; (with_reducible refine (coatcheckref01_Low.calls k a0 16 t109 _ A2.out).mono ?_); rintro e w' ⟨rfl, ⟨nd, rfl⟩⟩; (try first | exact ⟨rfl, _, World.drewN_drewN _ _ _⟩ | exact ⟨rfl, _, Eq.trans (World.drewN_drewN _ _ _) (congrArg (World.drewN _) (Nat.add_assoc _ _ _))⟩)) | (go_at_call 27; (with_reducible refine (coatcheckref01_power.calls k 16 t110 _ A3.out).mono ?_); rintro e w' ⟨rfl, ⟨nd, rfl⟩⟩; (try first | exact ⟨rfl, _, World.drewN_drewN _ _ _⟩ | exact ⟨rfl, _, Eq.trans (World.drewN_drewN _ _ _) (congrArg (World.drewN _) (Nat.add_assoc _ _ _))⟩))); try go_wp2_with (first | (go_at_call 26; (with_reducible refine (coatcheckref01_Low.calls k a0 16 t109 _ A2.out).mono ?_); rintro e w' ⟨rfl, ⟨nd, rfl⟩⟩; (try first | exact ⟨rfl, _, World.drewN_drewN _ _ _⟩ | exact ⟨rfl, _, Eq.trans (World.drewN_drewN _ _ _) (congrArg (World.drewN _) (Nat.add_assoc _ _ _))⟩)) | (go_at_call 27; (with_reducible refine (coatcheckref01_power.calls k 16 t110 _ A3.out).mono ?_); rintro e w' ⟨rfl, ⟨nd, rfl⟩⟩; (try first | exact ⟨rfl, _, World.drewN_drewN _ _ _⟩ | exact ⟨rfl, _, Eq.trans (World.drewN_drewN _ _ _) (congrArg (World.drewN _) (Nat.add_assoc _ _ _))⟩))))
    go_ret2
    exact ⟨by first | rfl | (simp; done) | (simp [*]; done), by repeat (first | exact Drawn0.refl _ | apply Drawn0.step)⟩

end Go.Proofs.Ytnbelpndlkbepaa.PPackTells
