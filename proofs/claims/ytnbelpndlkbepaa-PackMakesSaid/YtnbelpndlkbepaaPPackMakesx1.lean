-- PRINTED BY print.sh 35421559b90ae4d0a3588c463048766b98c2df88dd9212a6774a882060cdf62d: not written by this session
import Derived.Test.YtnbelpndlkbepaaPPackMakesx0
namespace Go.Proofs.Ytnbelpndlkbepaa.PPackMakes
open Go.RowKit Go.Proofs.YtnbelpndlkbepaaW.PrintWords Go.Proofs.YtnbelpndlkbepaaW.PrintLast Go.Proofs.YtnbelpndlkbepaaW.PrintMore
attribute [local go_sem] max2_int min2_int max_two min_two max_three min_three max_four min_four   -- for this text's walks alone
set_option linter.unusedVariables false
set_option linter.unusedSimpArgs false

/-! ### pack_Head: function 7 -/
def pack_Head.f (a0 : Int) (a1 : Int) : Option (Int) := some (Go.bits .or .u64 (IntKind.u64.wrap (a1 * 4294967296)) ((wrap64 (a0 + 1)) % 4294967296))
set_option maxHeartbeats 8000000 in
set_option maxRecDepth 100000 in
theorem pack_Head.calls (a0 : Int) (a1 : Int) (r : Int) (w : World) (h : pack_Head.f a0 a1 = some r) :
    Calls Try.prog 7 #[.int .i64 a0, .int .u64 a1] w fun e w' => e = .returned (.int .u64 r) ∧ Drawn0 w w' := by
  have H : (some (Go.bits .or .u64 (IntKind.u64.wrap (a1 * 4294967296)) ((wrap64 (a0 + 1)) % 4294967296))) = some r := h
  clear h
  obtain rfl := Option.some.inj H
  go_enter Try.func7, Try.ntmps7
  go_wp2
  go_ret
  exact ⟨by first | rfl | (simp; done) | (simp [*]; done), by repeat (first | exact Drawn0.refl _ | apply Drawn0.step)⟩

/-! ### pack_Ticket: function 15 -/
def pack_Ticket.f (a0 : Int) (a1 : Int) : Option (Int) := some (Go.bits .or .u64 (IntKind.u64.wrap (a1 * 65536)) (IntKind.u64.wrap (IntKind.u16.wrap (wrap64 (a0 + 1)))))
set_option maxHeartbeats 8000000 in
set_option maxRecDepth 100000 in
theorem pack_Ticket.calls (a0 : Int) (a1 : Int) (r : Int) (w : World) (h : pack_Ticket.f a0 a1 = some r) :
    Calls Try.prog 15 #[.int .i64 a0, .int .u64 a1] w fun e w' => e = .returned (.int .u64 r) ∧ Drawn0 w w' := by
  have H : (some (Go.bits .or .u64 (IntKind.u64.wrap (a1 * 65536)) (IntKind.u64.wrap (IntKind.u16.wrap (wrap64 (a0 + 1)))))) = some r := h
  clear h
  obtain rfl := Option.some.inj H
  go_enter Try.func15, Try.ntmps15
  go_wp2
  go_ret
  exact ⟨by first | rfl | (simp; done) | (simp [*]; done), by repeat (first | exact Drawn0.refl _ | apply Drawn0.step)⟩

/-! ### coatchecklaw01_awake: function 6 -/
def coatchecklaw01_awake.f  : Option (Bool) := (pack_Head.f 4 1).bind fun t101 => (if t101 = 4294967301 then ((pack_Ticket.f 2 3).bind fun t102 => (some (t102 == 196611))) else (some false))
set_option maxHeartbeats 8000000 in
set_option maxRecDepth 100000 in
theorem coatchecklaw01_awake.calls  (r : Bool) (w : World) (h : coatchecklaw01_awake.f  = some r) :
    Calls Try.prog 6 #[] w fun e w' => e = .returned (.bool r) ∧ Drawn0 w w' := by
  have H : ((pack_Head.f 4 1).bind fun t101 => (if t101 = 4294967301 then ((pack_Ticket.f 2 3).bind fun t102 => (some (t102 == 196611))) else (some false))) = some r := h
  clear h
  replace H := Option.bind_eq_some_iff.mp H
  obtain ⟨t101, A10, H⟩ := H
  replace H : (if t101 = 4294967301 then ((pack_Ticket.f 2 3).bind fun t102 => (some (t102 == 196611))) else (some false)) = some r := H
  have A1 := Aside0.mk A10
  clear A10
  by_cases c2 : t101 = 4294967301
  · rw [if_pos c2] at H
    have c2b0 : (t101 == 4294967301) = true := beq_iff_eq.mpr c2
    have c2b1 : (t101 != 4294967301) = false := bne_eq_false_iff_eq.mpr c2
    clear c2
    replace H := Option.bind_eq_some_iff.mp H
    obtain ⟨t102, A30, H⟩ := H
    replace H : (some (t102 == 196611)) = some r := H
    have A3 := Aside0.mk A30
    clear A30
    obtain rfl := Option.some.inj H
    go_enter Try.func6, Try.ntmps6
    go_wp2_with (first | ((with_reducible refine gate_callee (f := 7) rfl ?_); refine goesL_ (some 1) rfl rfl Try.func7 (by kernel_rfl) rfl #[.int .i64 4, .int .u64 1] rfl (by (try simp only [List.map_toArray, List.map_cons, List.map_nil]); first | done | rfl | (simp only [List.length_drop, List.length_take]; rfl)) ?_; (with_reducible refine (pack_Head.calls 4 1 t101 _ A1.out).mono ?_); rintro e w' ⟨rfl, ⟨nd, rfl⟩⟩; refine ⟨_, rfl, ?_⟩) | (go_at_call 15; (with_reducible refine (pack_Ticket.calls 2 3 t102 _ A3.out).mono ?_); rintro e w' ⟨rfl, ⟨nd, rfl⟩⟩))
    go_ret
    exact ⟨by first | rfl | (simp; done) | (simp [*]; done), by repeat (first | exact Drawn0.refl _ | apply Drawn0.step)⟩
  · rw [if_neg c2] at H
    have c2b0 : (t101 == 4294967301) = false := beq_eq_false_iff_ne.mpr c2
    have c2b1 : (t101 != 4294967301) = true := bne_iff_ne.mpr c2
    obtain rfl := Option.some.inj H
    go_enter Try.func6, Try.ntmps6
    go_wp2_with (first | ((with_reducible refine gate_callee (f := 7) rfl ?_); refine goesL_ (some 1) rfl rfl Try.func7 (by kernel_rfl) rfl #[.int .i64 4, .int .u64 1] rfl (by (try simp only [List.map_toArray, List.map_cons, List.map_nil]); first | done | rfl | (simp only [List.length_drop, List.length_take]; rfl)) ?_; (with_reducible refine (pack_Head.calls 4 1 t101 _ A1.out).mono ?_); rintro e w' ⟨rfl, ⟨nd, rfl⟩⟩; refine ⟨_, rfl, ?_⟩))
    go_ret
    exact ⟨by first | rfl | (simp; done) | (simp [*]; done), by repeat (first | exact Drawn0.refl _ | apply Drawn0.step)⟩

/-! ### coatcheckref01_Low: function 26 -/
def coatcheckref01_Low.l0 : Nat → Int → Int → Int → Int → Option (Int)
  | 0, _, _, _, _ => none
  | k + 1, x0, x1, x5, x6 => if x6 < x1 then (coatcheckref01_Low.l0 k x0 x1 (IntKind.u64.wrap (x5 * 2)) (wrap64 (x6 + 1))) else (if x1 > 63 then (some x0) else (if x5 = 0 then (none) else (some (Int.tmod x0 x5))))
def coatcheckref01_Low.f (k : Nat) (a0 : Int) (a1 : Int) : Option (Int) := coatcheckref01_Low.l0 k a0 a1 1 0
theorem coatcheckref01_Low.mono_l : ∀ k, (∀ y0 y1 y2 y3, LeO (coatcheckref01_Low.l0 k y0 y1 y2 y3) (coatcheckref01_Low.l0 (k + 1) y0 y1 y2 y3))
  | 0 => fun _ _ _ _ r h => by simp [coatcheckref01_Low.l0] at h
  | k + 1 => by
    have ih0 := coatcheckref01_Low.mono_l k
    · intro y0 y1 y2 y3
      unfold coatcheckref01_Low.l0
      repeat' first
      | (with_reducible exact ih0 _ _ _ _)
      | (with_reducible exact LeO.refl _)
      | (with_reducible exact LeO.none _)
      | (with_reducible refine LeO.ite ?_ ?_)
      | (with_reducible refine LeO.bind ?_ (fun _ => ?_))
      | exact ih0 _ _ _ _
      | exact LeO.none _
      | refine LeO.ite ?_ ?_
      | refine LeO.bind ?_ (fun _ => ?_)
theorem coatcheckref01_Low.mono : ∀ a0 a1 k, LeO (coatcheckref01_Low.f k a0 a1) (coatcheckref01_Low.f (k + 1) a0 a1) := by
  intro a0 a1 k
  have ih0 := coatcheckref01_Low.mono_l k
  unfold coatcheckref01_Low.f
  repeat' first
      | (with_reducible exact ih0 _ _ _ _)
      | (with_reducible exact LeO.refl _)
      | (with_reducible exact LeO.none _)
      | (with_reducible refine LeO.ite ?_ ?_)
      | (with_reducible refine LeO.bind ?_ (fun _ => ?_))
      | exact ih0 _ _ _ _
      | exact LeO.none _
      | refine LeO.ite ?_ ?_
      | refine LeO.bind ?_ (fun _ => ?_)
set_option maxHeartbeats 8000000 in
set_option maxRecDepth 100000 in
theorem coatcheckref01_Low.calls (k : Nat) (a0 : Int) (a1 : Int) (r : Int) (w : World) (h : coatcheckref01_Low.f k a0 a1 = some r) :
    Calls Try.prog 26 #[.int .u64 a0, .int .i64 a1] w fun e w' => e = .returned (.int .u64 r) ∧ Drawn0 w w' := by
  have H : (coatcheckref01_Low.l0 k a0 a1 1 0) = some r := h
  clear h
  have H' := Aside0.mk H
  clear H
  go_enter Try.func26, Try.ntmps26
  go_wp2
  go_loopg [5, 6] k (fun kq v5 v6 w' => ∃ (x5_1 : Int) (x6_1 : Int), v5 = .int .u64 x5_1 ∧ v6 = .int .i64 x6_1 ∧ Aside0 (coatcheckref01_Low.l0 kq a0 a1 x5_1 x6_1 = some r) ∧ Aside0 (kq ≤ k) ∧ Drawn0 w w')
  case atStart => exact ⟨(1), (0), (by first | rfl | (simp; done) | (simp [*]; done)), (by first | rfl | (simp; done) | (simp [*]; done)), H', ⟨Nat.le_refl _⟩, by repeat (first | exact Drawn0.refl _ | apply Drawn0.step)⟩
  case round =>
    clear H'
    try clear c2
    try clear p2
    obtain ⟨x5_1, x6_1, rfl, rfl, HA, HK1, ⟨m1, rfl⟩⟩ := hrel
    cases gk with
    | zero => exact absurd HA.out (by simp [coatcheckref01_Low.l0])
    | succ k1 =>
      have H := HA.out
      clear HA
      simp only [coatcheckref01_Low.l0] at H
      by_cases c3 : x6_1 < a1
      · rw [if_pos c3] at H
        have c3b0 : decide (x6_1 < a1) = true := decide_eq_true c3
        clear c3
        have H' := Aside0.mk H
        clear H
        go_wp2
        go_roundg k1
        case measure => have := HK1.out; omega
        case rel => exact ⟨(IntKind.u64.wrap (x5_1 * 2)), (wrap64 (x6_1 + 1)), (by first | rfl | (simp; done) | (simp [*]; done)), (by first | rfl | (simp; done) | (simp [*]; done)), H', ⟨by have := HK1.out; omega⟩, by repeat (first | exact Drawn0.refl _ | apply Drawn0.step)⟩
      · rw [if_neg c3] at H
        have c3b0 : decide (x6_1 < a1) = false := decide_eq_false c3
        clear c3
        by_cases c4 : a1 > 63
        · rw [if_pos c4] at H
          have c4b0 : decide (63 < a1) = true := decide_eq_true c4
          clear c4
          obtain rfl := Option.some.inj H
          go_wp2
          go_ret
          exact ⟨by first | rfl | (simp; done) | (simp [*]; done), by repeat (first | exact Drawn0.refl _ | apply Drawn0.step)⟩
        · rw [if_neg c4] at H
          have c4b0 : decide (63 < a1) = false := decide_eq_false c4
          clear c4
          by_cases c5 : x5_1 = 0
          · rw [if_pos c5] at H
            exact absurd H (by simp)
          · rw [if_neg c5] at H
            have c5b0 : (x5_1 == 0) = false := beq_eq_false_iff_ne.mpr c5
            have c5b1 : (x5_1 != 0) = true := bne_iff_ne.mpr c5
            obtain rfl := Option.some.inj H
            go_wp2
            go_ret
            exact ⟨by first | rfl | (simp; done) | (simp [*]; done), by repeat (first | exact Drawn0.refl _ | apply Drawn0.step)⟩

/-! ### coatcheckref01_power: function 27 -/
def coatcheckref01_power.l0 : Nat → Int → Int → Int → Option (Int)
  | 0, _, _, _ => none
  | k + 1, x0, x3, x4 => if x4 < x0 then (coatcheckref01_power.l0 k x0 (IntKind.u64.wrap (x3 * 2)) (wrap64 (x4 + 1))) else (some x3)
def coatcheckref01_power.f (k : Nat) (a0 : Int) : Option (Int) := coatcheckref01_power.l0 k a0 1 0
theorem coatcheckref01_power.mono_l : ∀ k, (∀ y0 y1 y2, LeO (coatcheckref01_power.l0 k y0 y1 y2) (coatcheckref01_power.l0 (k + 1) y0 y1 y2))
  | 0 => fun _ _ _ r h => by simp [coatcheckref01_power.l0] at h
  | k + 1 => by
    have ih0 := coatcheckref01_power.mono_l k
    · intro y0 y1 y2
      unfold coatcheckref01_power.l0
      repeat' first
      | (with_reducible exact ih0 _ _ _)
      | (with_reducible exact LeO.refl _)
      | (with_reducible exact LeO.none _)
      | (with_reducible refine LeO.ite ?_ ?_)
      | (with_reducible refine LeO.bind ?_ (fun _ => ?_))
      | exact ih0 _ _ _
      | exact LeO.none _
      | refine LeO.ite ?_ ?_
      | refine LeO.bind ?_ (fun _ => ?_)
theorem coatcheckref01_power.mono : ∀ a0 k, LeO (coatcheckref01_power.f k a0) (coatcheckref01_power.f (k + 1) a0) := by
  intro a0 k
  have ih0 := coatcheckref01_power.mono_l k
  unfold coatcheckref01_power.f
  repeat' first
      | (with_reducible exact ih0 _ _ _)
      | (with_reducible exact LeO.refl _)
      | (with_reducible exact LeO.none _)
      | (with_reducible refine LeO.ite ?_ ?_)
      | (with_reducible refine LeO.bind ?_ (fun _ => ?_))
      | exact ih0 _ _ _
      | exact LeO.none _
      | refine LeO.ite ?_ ?_
      | refine LeO.bind ?_ (fun _ => ?_)
set_option maxHeartbeats 8000000 in
set_option maxRecDepth 100000 in
theorem coatcheckref01_power.calls (k : Nat) (a0 : Int) (r : Int) (w : World) (h : coatcheckref01_power.f k a0 = some r) :
    Calls Try.prog 27 #[.int .i64 a0] w fun e w' => e = .returned (.int .u64 r) ∧ Drawn0 w w' := by
  have H : (coatcheckref01_power.l0 k a0 1 0) = some r := h
  clear h
  have H' := Aside0.mk H
  clear H
  go_enter Try.func27, Try.ntmps27
  go_wp2
  go_loopg [3, 4] k (fun kq v3 v4 w' => ∃ (x3_1 : Int) (x4_1 : Int), v3 = .int .u64 x3_1 ∧ v4 = .int .i64 x4_1 ∧ Aside0 (coatcheckref01_power.l0 kq a0 x3_1 x4_1 = some r) ∧ Aside0 (kq ≤ k) ∧ Drawn0 w w')
  case atStart => exact ⟨(1), (0), (by first | rfl | (simp; done) | (simp [*]; done)), (by first | rfl | (simp; done) | (simp [*]; done)), H', ⟨Nat.le_refl _⟩, by repeat (first | exact Drawn0.refl _ | apply Drawn0.step)⟩
  case round =>
    clear H'
    obtain ⟨x3_1, x4_1, rfl, rfl, HA, HK1, ⟨m1, rfl⟩⟩ := hrel
    cases gk with
    | zero => exact absurd HA.out (by simp [coatcheckref01_power.l0])
    | succ k1 =>
      have H := HA.out
      clear HA
      simp only [coatcheckref01_power.l0] at H
      by_cases c2 : x4_1 < a0
      · rw [if_pos c2] at H
        have c2b0 : decide (x4_1 < a0) = true := decide_eq_true c2
        clear c2
        have H' := Aside0.mk H
        clear H
        go_wp2
        go_roundg k1
        case measure => have := HK1.out; omega
        case rel => exact ⟨(IntKind.u64.wrap (x3_1 * 2)), (wrap64 (x4_1 + 1)), (by first | rfl | (simp; done) | (simp [*]; done)), (by first | rfl | (simp; done) | (simp [*]; done)), H', ⟨by have := HK1.out; omega⟩, by repeat (first | exact Drawn0.refl _ | apply Drawn0.step)⟩
      · rw [if_neg c2] at H
        have c2b0 : decide (x4_1 < a0) = false := decide_eq_false c2
        clear c2
        obtain rfl := Option.some.inj H
        go_wp2
        go_ret
        exact ⟨by first | rfl | (simp; done) | (simp [*]; done), by repeat (first | exact Drawn0.refl _ | apply Drawn0.step)⟩

/-! ### coatcheckref01_Head: function 8 -/
def coatcheckref01_Head.f (k : Nat) (a0 : Int) (a1 : Int) : Option (Int) := (coatcheckref01_Low.f k a1 32).bind fun t103 => ((coatcheckref01_power.f k 32).bind fun t104 => ((coatcheckref01_Low.f k (IntKind.u64.wrap ((IntKind.u64.wrap (a0)) + 1)) 32).bind fun t105 => (some (IntKind.u64.wrap ((IntKind.u64.wrap (t103 * t104)) + t105)))))
theorem coatcheckref01_Head.mono : ∀ a0 a1 k, LeO (coatcheckref01_Head.f k a0 a1) (coatcheckref01_Head.f (k + 1) a0 a1) := by
  intro a0 a1 k
  unfold coatcheckref01_Head.f
  repeat' first
      | (with_reducible exact coatcheckref01_Low.mono _ _ _)
      | (with_reducible exact coatcheckref01_power.mono _ _)
      | (with_reducible exact LeO.refl _)
      | (with_reducible exact LeO.none _)
      | (with_reducible refine LeO.ite ?_ ?_)
      | (with_reducible refine LeO.bind ?_ (fun _ => ?_))
      | exact coatcheckref01_Low.mono _ _ _
      | exact coatcheckref01_power.mono _ _
      | exact LeO.none _
      | refine LeO.ite ?_ ?_
      | refine LeO.bind ?_ (fun _ => ?_)
set_option maxHeartbeats 8000000 in
set_option maxRecDepth 100000 in
theorem coatcheckref01_Head.calls (k : Nat) (a0 : Int) (a1 : Int) (r : Int) (w : World) (h : coatcheckref01_Head.f k a0 a1 = some r) :
    Calls Try.prog 8 #[.int .i64 a0, .int .u64 a1] w fun e w' => e = .returned (.int .u64 r) ∧ Drawn0 w w' := by
  have H : ((coatcheckref01_Low.f k a1 32).bind fun t103 => ((coatcheckref01_power.f k 32).bind fun t104 => ((coatcheckref01_Low.f k (IntKind.u64.wrap ((IntKind.u64.wrap (a0)) + 1)) 32).bind fun t105 => (some (IntKind.u64.wrap ((IntKind.u64.wrap (t103 * t104)) + t105)))))) = some r := h
  clear h
  replace H := Option.bind_eq_some_iff.mp H
  obtain ⟨t103, A30, H⟩ := H
  replace H : ((coatcheckref01_power.f k 32).bind fun t104 => ((coatcheckref01_Low.f k (IntKind.u64.wrap ((IntKind.u64.wrap (a0)) + 1)) 32).bind fun t105 => (some (IntKind.u64.wrap ((IntKind.u64.wrap (t103 * t104)) + t105))))) = some r := H
  have A3 := Aside0.mk A30
  clear A30
  replace H := Option.bind_eq_some_iff.mp H
  obtain ⟨t104, A40, H⟩ := H
  replace H : ((coatcheckref01_Low.f k (IntKind.u64.wrap ((IntKind.u64.wrap (a0)) + 1)) 32).bind fun t105 => (some (IntKind.u64.wrap ((IntKind.u64.wrap (t103 * t104)) + t105)))) = some r := H
  have A4 := Aside0.mk A40
  clear A40
  replace H := Option.bind_eq_some_iff.mp H
  obtain ⟨t105, A50, H⟩ := H
  replace H : (some (IntKind.u64.wrap ((IntKind.u64.wrap (t103 * t104)) + t105))) = some r := H
  have A5 := Aside0.mk A50
  clear A50
  obtain rfl := Option.some.inj H
  go_enter Try.func8, Try.ntmps8
  go_wp2_with (first | ((with_reducible refine gate_callee (f := 26) rfl ?_); refine goesL_ (some 6) rfl rfl Try.func26 (by kernel_rfl) rfl #[.int .u64 a1, .int .i64 32] rfl (by (try simp only [List.map_toArray, List.map_cons, List.map_nil]); first | done | rfl | (simp only [List.length_drop, List.length_take]; rfl)) ?_; (with_reducible refine (coatcheckref01_Low.calls k a1 32 t103 _ A3.out).mono ?_); rintro e w' ⟨rfl, ⟨nd, rfl⟩⟩; refine ⟨_, rfl, ?_⟩) | ((with_reducible refine gate_callee (f := 27) rfl ?_); refine goesL_ (some 7) rfl rfl Try.func27 (by kernel_rfl) rfl #[.int .i64 32] rfl (by (try simp only [List.map_toArray, List.map_cons, List.map_nil]); first | done | rfl | (simp only [List.length_drop, List.length_take]; rfl)) ?_; (with_reducible refine (coatcheckref01_power.calls k 32 t104 _ A4.out).mono ?_); rintro e w' ⟨rfl, ⟨nd, rfl⟩⟩; refine ⟨_, rfl, ?_⟩) | ((with_reducible refine gate_callee (f := 26) rfl ?_); refine goesL_ (some 12) rfl rfl Try.func26 (by kernel_rfl) rfl #[.int .u64 (IntKind.u64.wrap ((IntKind.u64.wrap (a0)) + 1)), .int .i64 32] rfl (by (try simp only [List.map_toArray, List.map_cons, List.map_nil]); first | done | rfl | (simp only [List.length_drop, List.length_take]; rfl)) ?_; (with_reducible refine (coatcheckref01_Low.calls k (IntKind.u64.wrap ((IntKind.u64.wrap (a0)) + 1)) 32 t105 _ A5.out).mono ?_); rintro e w' ⟨rfl, ⟨nd, rfl⟩⟩; refine ⟨_, rfl, ?_⟩))
  go_ret
  exact ⟨by first | rfl | (simp; done) | (simp [*]; done), by repeat (first | exact Drawn0.refl _ | apply Drawn0.step)⟩

/-! ### pack_Entry: function 9 -/
def pack_Entry.f (a0 : Int) (a1 : Int) (a2 : Int) : Option (Int) := some (Go.bits .or .u64 (Go.bits .or .u64 (IntKind.u64.wrap (a0 * 1048576)) (IntKind.u64.wrap ((IntKind.u64.wrap (IntKind.u16.wrap (wrap64 (a1 + 1)))) * 16))) (((((a2) % 256) * 16) % 256) / 16))
set_option maxHeartbeats 8000000 in
set_option maxRecDepth 100000 in
theorem pack_Entry.calls (a0 : Int) (a1 : Int) (a2 : Int) (r : Int) (w : World) (h : pack_Entry.f a0 a1 a2 = some r) :
    Calls Try.prog 9 #[.int .u64 a0, .int .i64 a1, .int .i64 a2] w fun e w' => e = .returned (.int .u64 r) ∧ Drawn0 w w' := by
  have H : (some (Go.bits .or .u64 (Go.bits .or .u64 (IntKind.u64.wrap (a0 * 1048576)) (IntKind.u64.wrap ((IntKind.u64.wrap (IntKind.u16.wrap (wrap64 (a1 + 1)))) * 16))) (((((a2) % 256) * 16) % 256) / 16))) = some r := h
  clear h
  obtain rfl := Option.some.inj H
  go_enter Try.func9, Try.ntmps9
  go_wp2
  go_ret
  exact ⟨by first | rfl | (simp; done) | (simp [*]; done), by repeat (first | exact Drawn0.refl _ | apply Drawn0.step)⟩

/-! ### coatcheckref01_Entry: function 10 -/
def coatcheckref01_Entry.f (k : Nat) (a0 : Int) (a1 : Int) (a2 : Int) : Option (Int) := (coatcheckref01_Low.f k a0 44).bind fun t106 => ((coatcheckref01_power.f k 20).bind fun t107 => ((coatcheckref01_Low.f k (IntKind.u64.wrap ((IntKind.u64.wrap (a1)) + 1)) 16).bind fun t108 => ((coatcheckref01_Low.f k (IntKind.u64.wrap (a2)) 4).bind fun t109 => (some (IntKind.u64.wrap ((IntKind.u64.wrap ((IntKind.u64.wrap (t106 * t107)) + (IntKind.u64.wrap (t108 * 16)))) + t109))))))
theorem coatcheckref01_Entry.mono : ∀ a0 a1 a2 k, LeO (coatcheckref01_Entry.f k a0 a1 a2) (coatcheckref01_Entry.f (k + 1) a0 a1 a2) := by
  intro a0 a1 a2 k
  unfold coatcheckref01_Entry.f
  repeat' first
      | (with_reducible exact coatcheckref01_Low.mono _ _ _)
      | (with_reducible exact coatcheckref01_power.mono _ _)
      | (with_reducible exact LeO.refl _)
      | (with_reducible exact LeO.none _)
      | (with_reducible refine LeO.ite ?_ ?_)
      | (with_reducible refine LeO.bind ?_ (fun _ => ?_))
      | exact coatcheckref01_Low.mono _ _ _
      | exact coatcheckref01_power.mono _ _
      | exact LeO.none _
      | refine LeO.ite ?_ ?_
      | refine LeO.bind ?_ (fun _ => ?_)
set_option maxHeartbeats 8000000 in
set_option maxRecDepth 100000 in
theorem coatcheckref01_Entry.calls (k : Nat) (a0 : Int) (a1 : Int) (a2 : Int) (r : Int) (w : World) (h : coatcheckref01_Entry.f k a0 a1 a2 = some r) :
    Calls Try.prog 10 #[.int .u64 a0, .int .i64 a1, .int .i64 a2] w fun e w' => e = .returned (.int .u64 r) ∧ Drawn0 w w' := by
  have H : ((coatcheckref01_Low.f k a0 44).bind fun t106 => ((coatcheckref01_power.f k 20).bind fun t107 => ((coatcheckref01_Low.f k (IntKind.u64.wrap ((IntKind.u64.wrap (a1)) + 1)) 16).bind fun t108 => ((coatcheckref01_Low.f k (IntKind.u64.wrap (a2)) 4).bind fun t109 => (some (IntKind.u64.wrap ((IntKind.u64.wrap ((IntKind.u64.wrap (t106 * t107)) + (IntKind.u64.wrap (t108 * 16)))) + t109))))))) = some r := h
  clear h
  replace H := Option.bind_eq_some_iff.mp H
  obtain ⟨t106, A40, H⟩ := H
  replace H : ((coatcheckref01_power.f k 20).bind fun t107 => ((coatcheckref01_Low.f k (IntKind.u64.wrap ((IntKind.u64.wrap (a1)) + 1)) 16).bind fun t108 => ((coatcheckref01_Low.f k (IntKind.u64.wrap (a2)) 4).bind fun t109 => (some (IntKind.u64.wrap ((IntKind.u64.wrap ((IntKind.u64.wrap (t106 * t107)) + (IntKind.u64.wrap (t108 * 16)))) + t109)))))) = some r := H
  have A4 := Aside0.mk A40
  clear A40
  replace H := Option.bind_eq_some_iff.mp H
  obtain ⟨t107, A50, H⟩ := H
  replace H : ((coatcheckref01_Low.f k (IntKind.u64.wrap ((IntKind.u64.wrap (a1)) + 1)) 16).bind fun t108 => ((coatcheckref01_Low.f k (IntKind.u64.wrap (a2)) 4).bind fun t109 => (some (IntKind.u64.wrap ((IntKind.u64.wrap ((IntKind.u64.wrap (t106 * t107)) + (IntKind.u64.wrap (t108 * 16)))) + t109))))) = some r := H
  have A5 := Aside0.mk A50
  clear A50
  replace H := Option.bind_eq_some_iff.mp H
  obtain ⟨t108, A60, H⟩ := H
  replace H : ((coatcheckref01_Low.f k (IntKind.u64.wrap (a2)) 4).bind fun t109 => (some (IntKind.u64.wrap ((IntKind.u64.wrap ((IntKind.u64.wrap (t106 * t107)) + (IntKind.u64.wrap (t108 * 16)))) + t109)))) = some r := H
  have A6 := Aside0.mk A60
  clear A60
  replace H := Option.bind_eq_some_iff.mp H
  obtain ⟨t109, A70, H⟩ := H
  replace H : (some (IntKind.u64.wrap ((IntKind.u64.wrap ((IntKind.u64.wrap (t106 * t107)) + (IntKind.u64.wrap (t108 * 16)))) + t109))) = some r := H
  have A7 := Aside0.mk A70
  clear A70
  obtain rfl := Option.some.inj H
  go_enter Try.func10, Try.ntmps10
  go_wp2_with (first | ((with_reducible refine gate_callee (f := 26) rfl ?_); refine goesL_ (some 8) rfl rfl Try.func26 (by kernel_rfl) rfl #[.int .u64 a0, .int .i64 44] rfl (by (try simp only [List.map_toArray, List.map_cons, List.map_nil]); first | done | rfl | (simp only [List.length_drop, List.length_take]; rfl)) ?_; (with_reducible refine (coatcheckref01_Low.calls k a0 44 t106 _ A4.out).mono ?_); rintro e w' ⟨rfl, ⟨nd, rfl⟩⟩; refine ⟨_, rfl, ?_⟩) | ((with_reducible refine gate_callee (f := 27) rfl ?_); refine goesL_ (some 9) rfl rfl Try.func27 (by kernel_rfl) rfl #[.int .i64 20] rfl (by (try simp only [List.map_toArray, List.map_cons, List.map_nil]); first | done | rfl | (simp only [List.length_drop, List.length_take]; rfl)) ?_; (with_reducible refine (coatcheckref01_power.calls k 20 t107 _ A5.out).mono ?_); rintro e w' ⟨rfl, ⟨nd, rfl⟩⟩; refine ⟨_, rfl, ?_⟩) | ((with_reducible refine gate_callee (f := 26) rfl ?_); refine goesL_ (some 14) rfl rfl Try.func26 (by kernel_rfl) rfl #[.int .u64 (IntKind.u64.wrap ((IntKind.u64.wrap (a1)) + 1)), .int .i64 16] rfl (by (try simp only [List.map_toArray, List.map_cons, List.map_nil]); first | done | rfl | (simp only [List.length_drop, List.length_take]; rfl)) ?_; (with_reducible refine (coatcheckref01_Low.calls k (IntKind.u64.wrap ((IntKind.u64.wrap (a1)) + 1)) 16 t108 _ A6.out).mono ?_); rintro e w' ⟨rfl, ⟨nd, rfl⟩⟩; refine ⟨_, rfl, ?_⟩) | ((with_reducible refine gate_callee (f := 26) rfl ?_); refine goesL_ (some 19) rfl rfl Try.func26 (by kernel_rfl) rfl #[.int .u64 (IntKind.u64.wrap (a2)), .int .i64 4] rfl (by (try simp only [List.map_toArray, List.map_cons, List.map_nil]); first | done | rfl | (simp only [List.length_drop, List.length_take]; rfl)) ?_; (with_reducible refine (coatcheckref01_Low.calls k (IntKind.u64.wrap (a2)) 4 t109 _ A7.out).mono ?_); rintro e w' ⟨rfl, ⟨nd, rfl⟩⟩; refine ⟨_, rfl, ?_⟩))
  go_ret
  exact ⟨by first | rfl | (simp; done) | (simp [*]; done), by repeat (first | exact Drawn0.refl _ | apply Drawn0.step)⟩

/-! ### pack_Announce: function 11 -/
def pack_Announce.f (a0 : Int) (a1 : Bool) : Option (Int) := if a1 = true then (some (Go.bits .or .u64 (IntKind.u64.wrap (a0 * 2)) 1)) else (some (IntKind.u64.wrap (a0 * 2)))
set_option maxHeartbeats 8000000 in
set_option maxRecDepth 100000 in
theorem pack_Announce.calls (a0 : Int) (a1 : Bool) (r : Int) (w : World) (h : pack_Announce.f a0 a1 = some r) :
    Calls Try.prog 11 #[.int .u64 a0, .bool a1] w fun e w' => e = .returned (.int .u64 r) ∧ Drawn0 w w' := by
  have H : (if a1 = true then (some (Go.bits .or .u64 (IntKind.u64.wrap (a0 * 2)) 1)) else (some (IntKind.u64.wrap (a0 * 2)))) = some r := h
  clear h
  by_cases c3 : a1 = true
  · subst c3
    have H1 : (some (Go.bits .or .u64 (IntKind.u64.wrap (a0 * 2)) 1)) = some r := by rw [if_pos rfl] at H; exact H
    clear H
    have H := H1
    clear H1
    obtain rfl := Option.some.inj H
    go_enter Try.func11, Try.ntmps11
    go_wp2
    go_ret
    exact ⟨by first | rfl | (simp; done) | (simp [*]; done), by repeat (first | exact Drawn0.refl _ | apply Drawn0.step)⟩
  · replace c3 := Bool.eq_false_iff.mpr c3
    subst c3
    have H1 : (some (IntKind.u64.wrap (a0 * 2))) = some r := by rw [if_neg (show ¬ (false = true) by decide)] at H; exact H
    clear H
    have H := H1
    clear H1
    obtain rfl := Option.some.inj H
    go_enter Try.func11, Try.ntmps11
    go_wp2
    go_ret
    exact ⟨by first | rfl | (simp; done) | (simp [*]; done), by repeat (first | exact Drawn0.refl _ | apply Drawn0.step)⟩

/-! ### coatcheckref01_Announce: function 12 -/
def coatcheckref01_Announce.f (k : Nat) (a0 : Int) (a1 : Bool) : Option (Int) := (coatcheckref01_Low.f k a0 63).bind fun t110 => (if a1 = true then (some (IntKind.u64.wrap ((IntKind.u64.wrap (t110 * 2)) + 1))) else (some (IntKind.u64.wrap (t110 * 2))))
theorem coatcheckref01_Announce.mono : ∀ a0 a1 k, LeO (coatcheckref01_Announce.f k a0 a1) (coatcheckref01_Announce.f (k + 1) a0 a1) := by
  intro a0 a1 k
  unfold coatcheckref01_Announce.f
  repeat' first
      | (with_reducible exact coatcheckref01_Low.mono _ _ _)
      | (with_reducible exact LeO.refl _)
      | (with_reducible exact LeO.none _)
      | (with_reducible refine LeO.ite ?_ ?_)
      | (with_reducible refine LeO.bind ?_ (fun _ => ?_))
      | exact coatcheckref01_Low.mono _ _ _
      | exact LeO.none _
      | refine LeO.ite ?_ ?_
      | refine LeO.bind ?_ (fun _ => ?_)
set_option maxHeartbeats 8000000 in
set_option maxRecDepth 100000 in
theorem coatcheckref01_Announce.calls (k : Nat) (a0 : Int) (a1 : Bool) (r : Int) (w : World) (h : coatcheckref01_Announce.f k a0 a1 = some r) :
    Calls Try.prog 12 #[.int .u64 a0, .bool a1] w fun e w' => e = .returned (.int .u64 r) ∧ Drawn0 w w' := by
  have H : ((coatcheckref01_Low.f k a0 63).bind fun t110 => (if a1 = true then (some (IntKind.u64.wrap ((IntKind.u64.wrap (t110 * 2)) + 1))) else (some (IntKind.u64.wrap (t110 * 2))))) = some r := h
  clear h
  replace H := Option.bind_eq_some_iff.mp H
  obtain ⟨t110, A30, H⟩ := H
  replace H : (if a1 = true then (some (IntKind.u64.wrap ((IntKind.u64.wrap (t110 * 2)) + 1))) else (some (IntKind.u64.wrap (t110 * 2)))) = some r := H
  have A3 := Aside0.mk A30
  clear A30
  by_cases c4 : a1 = true
  · subst c4
    have H1 : (some (IntKind.u64.wrap ((IntKind.u64.wrap (t110 * 2)) + 1))) = some r := by rw [if_pos rfl] at H; exact H
    clear H
    have H := H1
    clear H1
    obtain rfl := Option.some.inj H
    go_enter Try.func12, Try.ntmps12
    go_wp2_with (first | ((with_reducible refine gate_callee (f := 26) rfl ?_); refine goesL_ (some 7) rfl rfl Try.func26 (by kernel_rfl) rfl #[.int .u64 a0, .int .i64 63] rfl (by (try simp only [List.map_toArray, List.map_cons, List.map_nil]); first | done | rfl | (simp only [List.length_drop, List.length_take]; rfl)) ?_; (with_reducible refine (coatcheckref01_Low.calls k a0 63 t110 _ A3.out).mono ?_); rintro e w' ⟨rfl, ⟨nd, rfl⟩⟩; refine ⟨_, rfl, ?_⟩))
    go_ret
    exact ⟨by first | rfl | (simp; done) | (simp [*]; done), by repeat (first | exact Drawn0.refl _ | apply Drawn0.step)⟩
  · replace c4 := Bool.eq_false_iff.mpr c4
    subst c4
    have H1 : (some (IntKind.u64.wrap (t110 * 2))) = some r := by rw [if_neg (show ¬ (false = true) by decide)] at H; exact H
    clear H
    have H := H1
    clear H1
    obtain rfl := Option.some.inj H
    go_enter Try.func12, Try.ntmps12
    go_wp2_with (first | ((with_reducible refine gate_callee (f := 26) rfl ?_); refine goesL_ (some 7) rfl rfl Try.func26 (by kernel_rfl) rfl #[.int .u64 a0, .int .i64 63] rfl (by (try simp only [List.map_toArray, List.map_cons, List.map_nil]); first | done | rfl | (simp only [List.length_drop, List.length_take]; rfl)) ?_; (with_reducible refine (coatcheckref01_Low.calls k a0 63 t110 _ A3.out).mono ?_); rintro e w' ⟨rfl, ⟨nd, rfl⟩⟩; refine ⟨_, rfl, ?_⟩))
    go_ret
    exact ⟨by first | rfl | (simp; done) | (simp [*]; done), by repeat (first | exact Drawn0.refl _ | apply Drawn0.step)⟩

/-! ### pack_Slab: function 13 -/
def pack_Slab.f (a0 : Int) (a1 : Int) (a2 : Int) : Option (Int) := some (Go.bits .or .u64 (Go.bits .or .u64 (IntKind.u64.wrap (a2 * 65536)) (IntKind.u64.wrap (IntKind.u16.wrap ((IntKind.u16.wrap (a1)) * 16)))) (((((a0) % 256) * 16) % 256) / 16))
set_option maxHeartbeats 8000000 in
set_option maxRecDepth 100000 in
theorem pack_Slab.calls (a0 : Int) (a1 : Int) (a2 : Int) (r : Int) (w : World) (h : pack_Slab.f a0 a1 a2 = some r) :
    Calls Try.prog 13 #[.int .i64 a0, .int .i64 a1, .int .u64 a2] w fun e w' => e = .returned (.int .u64 r) ∧ Drawn0 w w' := by
  have H : (some (Go.bits .or .u64 (Go.bits .or .u64 (IntKind.u64.wrap (a2 * 65536)) (IntKind.u64.wrap (IntKind.u16.wrap ((IntKind.u16.wrap (a1)) * 16)))) (((((a0) % 256) * 16) % 256) / 16))) = some r := h
  clear h
  obtain rfl := Option.some.inj H
  go_enter Try.func13, Try.ntmps13
  go_wp2
  go_ret
  exact ⟨by first | rfl | (simp; done) | (simp [*]; done), by repeat (first | exact Drawn0.refl _ | apply Drawn0.step)⟩

/-! ### coatcheckref01_Slab: function 14 -/
def coatcheckref01_Slab.f (k : Nat) (a0 : Int) (a1 : Int) (a2 : Int) : Option (Int) := (coatcheckref01_Low.f k a2 48).bind fun t111 => ((coatcheckref01_power.f k 16).bind fun t112 => ((coatcheckref01_Low.f k (IntKind.u64.wrap (a1)) 12).bind fun t113 => ((coatcheckref01_Low.f k (IntKind.u64.wrap (a0)) 4).bind fun t114 => (some (IntKind.u64.wrap ((IntKind.u64.wrap ((IntKind.u64.wrap (t111 * t112)) + (IntKind.u64.wrap (t113 * 16)))) + t114))))))
theorem coatcheckref01_Slab.mono : ∀ a0 a1 a2 k, LeO (coatcheckref01_Slab.f k a0 a1 a2) (coatcheckref01_Slab.f (k + 1) a0 a1 a2) := by
  intro a0 a1 a2 k
  unfold coatcheckref01_Slab.f
  repeat' first
      | (with_reducible exact coatcheckref01_Low.mono _ _ _)
      | (with_reducible exact coatcheckref01_power.mono _ _)
      | (with_reducible exact LeO.refl _)
      | (with_reducible exact LeO.none _)
      | (with_reducible refine LeO.ite ?_ ?_)
      | (with_reducible refine LeO.bind ?_ (fun _ => ?_))
      | exact coatcheckref01_Low.mono _ _ _
      | exact coatcheckref01_power.mono _ _
      | exact LeO.none _
      | refine LeO.ite ?_ ?_
      | refine LeO.bind ?_ (fun _ => ?_)
set_option maxHeartbeats 8000000 in
set_option maxRecDepth 100000 in
theorem coatcheckref01_Slab.calls (k : Nat) (a0 : Int) (a1 : Int) (a2 : Int) (r : Int) (w : World) (h : coatcheckref01_Slab.f k a0 a1 a2 = some r) :
    Calls Try.prog 14 #[.int .i64 a0, .int .i64 a1, .int .u64 a2] w fun e w' => e = .returned (.int .u64 r) ∧ Drawn0 w w' := by
  have H : ((coatcheckref01_Low.f k a2 48).bind fun t111 => ((coatcheckref01_power.f k 16).bind fun t112 => ((coatcheckref01_Low.f k (IntKind.u64.wrap (a1)) 12).bind fun t113 => ((coatcheckref01_Low.f k (IntKind.u64.wrap (a0)) 4).bind fun t114 => (some (IntKind.u64.wrap ((IntKind.u64.wrap ((IntKind.u64.wrap (t111 * t112)) + (IntKind.u64.wrap (t113 * 16)))) + t114))))))) = some r := h
  clear h
  replace H := Option.bind_eq_some_iff.mp H
  obtain ⟨t111, A40, H⟩ := H
  replace H : ((coatcheckref01_power.f k 16).bind fun t112 => ((coatcheckref01_Low.f k (IntKind.u64.wrap (a1)) 12).bind fun t113 => ((coatcheckref01_Low.f k (IntKind.u64.wrap (a0)) 4).bind fun t114 => (some (IntKind.u64.wrap ((IntKind.u64.wrap ((IntKind.u64.wrap (t111 * t112)) + (IntKind.u64.wrap (t113 * 16)))) + t114)))))) = some r := H
  have A4 := Aside0.mk A40
  clear A40
  replace H := Option.bind_eq_some_iff.mp H
  obtain ⟨t112, A50, H⟩ := H
  replace H : ((coatcheckref01_Low.f k (IntKind.u64.wrap (a1)) 12).bind fun t113 => ((coatcheckref01_Low.f k (IntKind.u64.wrap (a0)) 4).bind fun t114 => (some (IntKind.u64.wrap ((IntKind.u64.wrap ((IntKind.u64.wrap (t111 * t112)) + (IntKind.u64.wrap (t113 * 16)))) + t114))))) = some r := H
  have A5 := Aside0.mk A50
  clear A50
  replace H := Option.bind_eq_some_iff.mp H
  obtain ⟨t113, A60, H⟩ := H
  replace H : ((coatcheckref01_Low.f k (IntKind.u64.wrap (a0)) 4).bind fun t114 => (some (IntKind.u64.wrap ((IntKind.u64.wrap ((IntKind.u64.wrap (t111 * t112)) + (IntKind.u64.wrap (t113 * 16)))) + t114)))) = some r := H
  have A6 := Aside0.mk A60
  clear A60
  replace H := Option.bind_eq_some_iff.mp H
  obtain ⟨t114, A70, H⟩ := H
  replace H : (some (IntKind.u64.wrap ((IntKind.u64.wrap ((IntKind.u64.wrap (t111 * t112)) + (IntKind.u64.wrap (t113 * 16)))) + t114))) = some r := H
  have A7 := Aside0.mk A70
  clear A70
  obtain rfl := Option.some.inj H
  go_enter Try.func14, Try.ntmps14
  go_wp2_with (first | ((with_reducible refine gate_callee (f := 26) rfl ?_); refine goesL_ (some 8) rfl rfl Try.func26 (by kernel_rfl) rfl #[.int .u64 a2, .int .i64 48] rfl (by (try simp only [List.map_toArray, List.map_cons, List.map_nil]); first | done | rfl | (simp only [List.length_drop, List.length_take]; rfl)) ?_; (with_reducible refine (coatcheckref01_Low.calls k a2 48 t111 _ A4.out).mono ?_); rintro e w' ⟨rfl, ⟨nd, rfl⟩⟩; refine ⟨_, rfl, ?_⟩) | ((with_reducible refine gate_callee (f := 27) rfl ?_); refine goesL_ (some 9) rfl rfl Try.func27 (by kernel_rfl) rfl #[.int .i64 16] rfl (by (try simp only [List.map_toArray, List.map_cons, List.map_nil]); first | done | rfl | (simp only [List.length_drop, List.length_take]; rfl)) ?_; (with_reducible refine (coatcheckref01_power.calls k 16 t112 _ A5.out).mono ?_); rintro e w' ⟨rfl, ⟨nd, rfl⟩⟩; refine ⟨_, rfl, ?_⟩) | ((with_reducible refine gate_callee (f := 26) rfl ?_); refine goesL_ (some 13) rfl rfl Try.func26 (by kernel_rfl) rfl #[.int .u64 (IntKind.u64.wrap (a1)), .int .i64 12] rfl (by (try simp only [List.map_toArray, List.map_cons, List.map_nil]); first | done | rfl | (simp only [List.length_drop, List.length_take]; rfl)) ?_; (with_reducible refine (coatcheckref01_Low.calls k (IntKind.u64.wrap (a1)) 12 t113 _ A6.out).mono ?_); rintro e w' ⟨rfl, ⟨nd, rfl⟩⟩; refine ⟨_, rfl, ?_⟩) | ((with_reducible refine gate_callee (f := 26) rfl ?_); refine goesL_ (some 18) rfl rfl Try.func26 (by kernel_rfl) rfl #[.int .u64 (IntKind.u64.wrap (a0)), .int .i64 4] rfl (by (try simp only [List.map_toArray, List.map_cons, List.map_nil]); first | done | rfl | (simp only [List.length_drop, List.length_take]; rfl)) ?_; (with_reducible refine (coatcheckref01_Low.calls k (IntKind.u64.wrap (a0)) 4 t114 _ A7.out).mono ?_); rintro e w' ⟨rfl, ⟨nd, rfl⟩⟩; refine ⟨_, rfl, ?_⟩))
  go_ret
  exact ⟨by first | rfl | (simp; done) | (simp [*]; done), by repeat (first | exact Drawn0.refl _ | apply Drawn0.step)⟩

/-! ### coatcheckref01_Ticket: function 16 -/
def coatcheckref01_Ticket.f (k : Nat) (a0 : Int) (a1 : Int) : Option (Int) := (coatcheckref01_Low.f k a1 48).bind fun t115 => ((coatcheckref01_power.f k 16).bind fun t116 => ((coatcheckref01_Low.f k (IntKind.u64.wrap ((IntKind.u64.wrap (a0)) + 1)) 16).bind fun t117 => (some (IntKind.u64.wrap ((IntKind.u64.wrap (t115 * t116)) + t117)))))
theorem coatcheckref01_Ticket.mono : ∀ a0 a1 k, LeO (coatcheckref01_Ticket.f k a0 a1) (coatcheckref01_Ticket.f (k + 1) a0 a1) := by
  intro a0 a1 k
  unfold coatcheckref01_Ticket.f
  repeat' first
      | (with_reducible exact coatcheckref01_Low.mono _ _ _)
      | (with_reducible exact coatcheckref01_power.mono _ _)
      | (with_reducible exact LeO.refl _)
      | (with_reducible exact LeO.none _)
      | (with_reducible refine LeO.ite ?_ ?_)
      | (with_reducible refine LeO.bind ?_ (fun _ => ?_))
      | exact coatcheckref01_Low.mono _ _ _
      | exact coatcheckref01_power.mono _ _
      | exact LeO.none _
      | refine LeO.ite ?_ ?_
      | refine LeO.bind ?_ (fun _ => ?_)
set_option maxHeartbeats 8000000 in
set_option maxRecDepth 100000 in
theorem coatcheckref01_Ticket.calls (k : Nat) (a0 : Int) (a1 : Int) (r : Int) (w : World) (h : coatcheckref01_Ticket.f k a0 a1 = some r) :
    Calls Try.prog 16 #[.int .i64 a0, .int .u64 a1] w fun e w' => e = .returned (.int .u64 r) ∧ Drawn0 w w' := by
  have H : ((coatcheckref01_Low.f k a1 48).bind fun t115 => ((coatcheckref01_power.f k 16).bind fun t116 => ((coatcheckref01_Low.f k (IntKind.u64.wrap ((IntKind.u64.wrap (a0)) + 1)) 16).bind fun t117 => (some (IntKind.u64.wrap ((IntKind.u64.wrap (t115 * t116)) + t117)))))) = some r := h
  clear h
  replace H := Option.bind_eq_some_iff.mp H
  obtain ⟨t115, A30, H⟩ := H
  replace H : ((coatcheckref01_power.f k 16).bind fun t116 => ((coatcheckref01_Low.f k (IntKind.u64.wrap ((IntKind.u64.wrap (a0)) + 1)) 16).bind fun t117 => (some (IntKind.u64.wrap ((IntKind.u64.wrap (t115 * t116)) + t117))))) = some r := H
  have A3 := Aside0.mk A30
  clear A30
  replace H := Option.bind_eq_some_iff.mp H
  obtain ⟨t116, A40, H⟩ := H
  replace H : ((coatcheckref01_Low.f k (IntKind.u64.wrap ((IntKind.u64.wrap (a0)) + 1)) 16).bind fun t117 => (some (IntKind.u64.wrap ((IntKind.u64.wrap (t115 * t116)) + t117)))) = some r := H
  have A4 := Aside0.mk A40
  clear A40
  replace H := Option.bind_eq_some_iff.mp H
  obtain ⟨t117, A50, H⟩ := H
  replace H : (some (IntKind.u64.wrap ((IntKind.u64.wrap (t115 * t116)) + t117))) = some r := H
  have A5 := Aside0.mk A50
  clear A50
  obtain rfl := Option.some.inj H
  go_enter Try.func16, Try.ntmps16
  go_wp2_with (first | ((with_reducible refine gate_callee (f := 26) rfl ?_); refine goesL_ (some 6) rfl rfl Try.func26 (by kernel_rfl) rfl #[.int .u64 a1, .int .i64 48] rfl (by (try simp only [List.map_toArray, List.map_cons, List.map_nil]); first | done | rfl | (simp only [List.length_drop, List.length_take]; rfl)) ?_; (with_reducible refine (coatcheckref01_Low.calls k a1 48 t115 _ A3.out).mono ?_); rintro e w' ⟨rfl, ⟨nd, rfl⟩⟩; refine ⟨_, rfl, ?_⟩) | ((with_reducible refine gate_callee (f := 27) rfl ?_); refine goesL_ (some 7) rfl rfl Try.func27 (by kernel_rfl) rfl #[.int .i64 16] rfl (by (try simp only [List.map_toArray, List.map_cons, List.map_nil]); first | done | rfl | (simp only [List.length_drop, List.length_take]; rfl)) ?_; (with_reducible refine (coatcheckref01_power.calls k 16 t116 _ A4.out).mono ?_); rintro e w' ⟨rfl, ⟨nd, rfl⟩⟩; refine ⟨_, rfl, ?_⟩) | ((with_reducible refine gate_callee (f := 26) rfl ?_); refine goesL_ (some 12) rfl rfl Try.func26 (by kernel_rfl) rfl #[.int .u64 (IntKind.u64.wrap ((IntKind.u64.wrap (a0)) + 1)), .int .i64 16] rfl (by (try simp only [List.map_toArray, List.map_cons, List.map_nil]); first | done | rfl | (simp only [List.length_drop, List.length_take]; rfl)) ?_; (with_reducible refine (coatcheckref01_Low.calls k (IntKind.u64.wrap ((IntKind.u64.wrap (a0)) + 1)) 16 t117 _ A5.out).mono ?_); rintro e w' ⟨rfl, ⟨nd, rfl⟩⟩; refine ⟨_, rfl, ?_⟩))
  go_ret
  exact ⟨by first | rfl | (simp; done) | (simp [*]; done), by repeat (first | exact Drawn0.refl _ | apply Drawn0.step)⟩

/-! ### coatchecklaw01_PackMakes: function 3 -/
def coatchecklaw01_PackMakes.f (k : Nat) (a0 : Int) (a1 : Int) (a2 : Int) (a3 : Bool) : Option (Bool) := (coatchecklaw01_awake.f).bind fun t118 => (if t118 = true then ((pack_Head.f a0 a2).bind fun t119 => ((coatcheckref01_Head.f k a0 a2).bind fun t120 => (if t119 = t120 then ((pack_Entry.f a2 a0 a1).bind fun t121 => ((coatcheckref01_Entry.f k a2 a0 a1).bind fun t122 => (if t121 = t122 then ((pack_Announce.f a2 a3).bind fun t123 => ((coatcheckref01_Announce.f k a2 a3).bind fun t124 => (if t123 = t124 then ((pack_Slab.f a0 a1 a2).bind fun t125 => ((coatcheckref01_Slab.f k a0 a1 a2).bind fun t126 => (if t125 = t126 then ((pack_Ticket.f a0 a2).bind fun t127 => ((coatcheckref01_Ticket.f k a0 a2).bind fun t128 => (some (t127 == t128)))) else (some false)))) else (some false)))) else (some false)))) else (some false)))) else (some false))
theorem coatchecklaw01_PackMakes.mono : ∀ a0 a1 a2 a3 k, LeO (coatchecklaw01_PackMakes.f k a0 a1 a2 a3) (coatchecklaw01_PackMakes.f (k + 1) a0 a1 a2 a3) := by
  intro a0 a1 a2 a3 k
  unfold coatchecklaw01_PackMakes.f
  repeat' first
      | (with_reducible exact coatcheckref01_Announce.mono _ _ _)
      | (with_reducible exact coatcheckref01_Entry.mono _ _ _ _)
      | (with_reducible exact coatcheckref01_Head.mono _ _ _)
      | (with_reducible exact coatcheckref01_Slab.mono _ _ _ _)
      | (with_reducible exact coatcheckref01_Ticket.mono _ _ _)
      | (with_reducible exact LeO.refl _)
      | (with_reducible exact LeO.none _)
      | (with_reducible refine LeO.ite ?_ ?_)
      | (with_reducible refine LeO.bind ?_ (fun _ => ?_))
      | exact coatcheckref01_Announce.mono _ _ _
      | exact coatcheckref01_Entry.mono _ _ _ _
      | exact coatcheckref01_Head.mono _ _ _
      | exact coatcheckref01_Slab.mono _ _ _ _
      | exact coatcheckref01_Ticket.mono _ _ _
      | exact LeO.none _
      | refine LeO.ite ?_ ?_
      | refine LeO.bind ?_ (fun _ => ?_)
set_option maxHeartbeats 8000000 in
set_option maxRecDepth 100000 in
theorem coatchecklaw01_PackMakes.calls (k : Nat) (a0 : Int) (a1 : Int) (a2 : Int) (a3 : Bool) (r : Bool) (w : World) (h : coatchecklaw01_PackMakes.f k a0 a1 a2 a3 = some r) :
    Calls Try.prog 3 #[.int .i64 a0, .int .i64 a1, .int .u64 a2, .bool a3] w fun e w' => e = .returned (.bool r) ∧ Drawn0 w w' := by
  have H : ((coatchecklaw01_awake.f).bind fun t118 => (if t118 = true then ((pack_Head.f a0 a2).bind fun t119 => ((coatcheckref01_Head.f k a0 a2).bind fun t120 => (if t119 = t120 then ((pack_Entry.f a2 a0 a1).bind fun t121 => ((coatcheckref01_Entry.f k a2 a0 a1).bind fun t122 => (if t121 = t122 then ((pack_Announce.f a2 a3).bind fun t123 => ((coatcheckref01_Announce.f k a2 a3).bind fun t124 => (if t123 = t124 then ((pack_Slab.f a0 a1 a2).bind fun t125 => ((coatcheckref01_Slab.f k a0 a1 a2).bind fun t126 => (if t125 = t126 then ((pack_Ticket.f a0 a2).bind fun t127 => ((coatcheckref01_Ticket.f k a0 a2).bind fun t128 => (some (t127 == t128)))) else (some false)))) else (some false)))) else (some false)))) else (some false)))) else (some false))) = some r := h
  clear h
  replace H := Option.bind_eq_some_iff.mp H
  obtain ⟨t118, A50, H⟩ := H
  replace H : (if t118 = true then ((pack_Head.f a0 a2).bind fun t119 => ((coatcheckref01_Head.f k a0 a2).bind fun t120 => (if t119 = t120 then ((pack_Entry.f a2 a0 a1).bind fun t121 => ((coatcheckref01_Entry.f k a2 a0 a1).bind fun t122 => (if t121 = t122 then ((pack_Announce.f a2 a3).bind fun t123 => ((coatcheckref01_Announce.f k a2 a3).bind fun t124 => (if t123 = t124 then ((pack_Slab.f a0 a1 a2).bind fun t125 => ((coatcheckref01_Slab.f k a0 a1 a2).bind fun t126 => (if t125 = t126 then ((pack_Ticket.f a0 a2).bind fun t127 => ((coatcheckref01_Ticket.f k a0 a2).bind fun t128 => (some (t127 == t128)))) else (some false)))) else (some false)))) else (some false)))) else (some false)))) else (some false)) = some r := H
  have A5 := Aside0.mk A50
  clear A50
  by_cases c6 : t118 = true
  · subst c6
    have H1 : ((pack_Head.f a0 a2).bind fun t119 => ((coatcheckref01_Head.f k a0 a2).bind fun t120 => (if t119 = t120 then ((pack_Entry.f a2 a0 a1).bind fun t121 => ((coatcheckref01_Entry.f k a2 a0 a1).bind fun t122 => (if t121 = t122 then ((pack_Announce.f a2 a3).bind fun t123 => ((coatcheckref01_Announce.f k a2 a3).bind fun t124 => (if t123 = t124 then ((pack_Slab.f a0 a1 a2).bind fun t125 => ((coatcheckref01_Slab.f k a0 a1 a2).bind fun t126 => (if t125 = t126 then ((pack_Ticket.f a0 a2).bind fun t127 => ((coatcheckref01_Ticket.f k a0 a2).bind fun t128 => (some (t127 == t128)))) else (some false)))) else (some false)))) else (some false)))) else (some false)))) = some r := by rw [if_pos rfl] at H; exact H
    clear H
    have H := H1
    clear H1
    replace H := Option.bind_eq_some_iff.mp H
    obtain ⟨t119, A70, H⟩ := H
    replace H : ((coatcheckref01_Head.f k a0 a2).bind fun t120 => (if t119 = t120 then ((pack_Entry.f a2 a0 a1).bind fun t121 => ((coatcheckref01_Entry.f k a2 a0 a1).bind fun t122 => (if t121 = t122 then ((pack_Announce.f a2 a3).bind fun t123 => ((coatcheckref01_Announce.f k a2 a3).bind fun t124 => (if t123 = t124 then ((pack_Slab.f a0 a1 a2).bind fun t125 => ((coatcheckref01_Slab.f k a0 a1 a2).bind fun t126 => (if t125 = t126 then ((pack_Ticket.f a0 a2).bind fun t127 => ((coatcheckref01_Ticket.f k a0 a2).bind fun t128 => (some (t127 == t128)))) else (some false)))) else (some false)))) else (some false)))) else (some false))) = some r := H
    have A7 := Aside0.mk A70
    clear A70
    replace H := Option.bind_eq_some_iff.mp H
    obtain ⟨t120, A80, H⟩ := H
    replace H : (if t119 = t120 then ((pack_Entry.f a2 a0 a1).bind fun t121 => ((coatcheckref01_Entry.f k a2 a0 a1).bind fun t122 => (if t121 = t122 then ((pack_Announce.f a2 a3).bind fun t123 => ((coatcheckref01_Announce.f k a2 a3).bind fun t124 => (if t123 = t124 then ((pack_Slab.f a0 a1 a2).bind fun t125 => ((coatcheckref01_Slab.f k a0 a1 a2).bind fun t126 => (if t125 = t126 then ((pack_Ticket.f a0 a2).bind fun t127 => ((coatcheckref01_Ticket.f k a0 a2).bind fun t128 => (some (t127 == t128)))) else (some false)))) else (some false)))) else (some false)))) else (some false)) = some r := H
    have A8 := Aside0.mk A80
    clear A80
    by_cases c9 : t119 = t120
    · rw [if_pos c9] at H
      have c9b0 : (t119 == t120) = true := beq_iff_eq.mpr c9
      have c9b1 : (t119 != t120) = false := bne_eq_false_iff_eq.mpr c9
      clear c9
      replace H := Option.bind_eq_some_iff.mp H
      obtain ⟨t121, A100, H⟩ := H
      replace H : ((coatcheckref01_Entry.f k a2 a0 a1).bind fun t122 => (if t121 = t122 then ((pack_Announce.f a2 a3).bind fun t123 => ((coatcheckref01_Announce.f k a2 a3).bind fun t124 => (if t123 = t124 then ((pack_Slab.f a0 a1 a2).bind fun t125 => ((coatcheckref01_Slab.f k a0 a1 a2).bind fun t126 => (if t125 = t126 then ((pack_Ticket.f a0 a2).bind fun t127 => ((coatcheckref01_Ticket.f k a0 a2).bind fun t128 => (some (t127 == t128)))) else (some false)))) else (some false)))) else (some false))) = some r := H
      have A10 := Aside0.mk A100
      clear A100
      replace H := Option.bind_eq_some_iff.mp H
      obtain ⟨t122, A110, H⟩ := H
      replace H : (if t121 = t122 then ((pack_Announce.f a2 a3).bind fun t123 => ((coatcheckref01_Announce.f k a2 a3).bind fun t124 => (if t123 = t124 then ((pack_Slab.f a0 a1 a2).bind fun t125 => ((coatcheckref01_Slab.f k a0 a1 a2).bind fun t126 => (if t125 = t126 then ((pack_Ticket.f a0 a2).bind fun t127 => ((coatcheckref01_Ticket.f k a0 a2).bind fun t128 => (some (t127 == t128)))) else (some false)))) else (some false)))) else (some false)) = some r := H
      have A11 := Aside0.mk A110
      clear A110
      by_cases c12 : t121 = t122
      · rw [if_pos c12] at H
        have c12b0 : (t121 == t122) = true := beq_iff_eq.mpr c12
        have c12b1 : (t121 != t122) = false := bne_eq_false_iff_eq.mpr c12
        clear c12
        replace H := Option.bind_eq_some_iff.mp H
        obtain ⟨t123, A130, H⟩ := H
        replace H : ((coatcheckref01_Announce.f k a2 a3).bind fun t124 => (if t123 = t124 then ((pack_Slab.f a0 a1 a2).bind fun t125 => ((coatcheckref01_Slab.f k a0 a1 a2).bind fun t126 => (if t125 = t126 then ((pack_Ticket.f a0 a2).bind fun t127 => ((coatcheckref01_Ticket.f k a0 a2).bind fun t128 => (some (t127 == t128)))) else (some false)))) else (some false))) = some r := H
        have A13 := Aside0.mk A130
        clear A130
        replace H := Option.bind_eq_some_iff.mp H
        obtain ⟨t124, A140, H⟩ := H
        replace H : (if t123 = t124 then ((pack_Slab.f a0 a1 a2).bind fun t125 => ((coatcheckref01_Slab.f k a0 a1 a2).bind fun t126 => (if t125 = t126 then ((pack_Ticket.f a0 a2).bind fun t127 => ((coatcheckref01_Ticket.f k a0 a2).bind fun t128 => (some (t127 == t128)))) else (some false)))) else (some false)) = some r := H
        have A14 := Aside0.mk A140
        clear A140
        by_cases c15 : t123 = t124
        · rw [if_pos c15] at H
          have c15b0 : (t123 == t124) = true := beq_iff_eq.mpr c15
          have c15b1 : (t123 != t124) = false := bne_eq_false_iff_eq.mpr c15
          clear c15
          replace H := Option.bind_eq_some_iff.mp H
          obtain ⟨t125, A160, H⟩ := H
          replace H : ((coatcheckref01_Slab.f k a0 a1 a2).bind fun t126 => (if t125 = t126 then ((pack_Ticket.f a0 a2).bind fun t127 => ((coatcheckref01_Ticket.f k a0 a2).bind fun t128 => (some (t127 == t128)))) else (some false))) = some r := H
          have A16 := Aside0.mk A160
          clear A160
          replace H := Option.bind_eq_some_iff.mp H
          obtain ⟨t126, A170, H⟩ := H
          replace H : (if t125 = t126 then ((pack_Ticket.f a0 a2).bind fun t127 => ((coatcheckref01_Ticket.f k a0 a2).bind fun t128 => (some (t127 == t128)))) else (some false)) = some r := H
          have A17 := Aside0.mk A170
          clear A170
          by_cases c18 : t125 = t126
          · rw [if_pos c18] at H
            have c18b0 : (t125 == t126) = true := beq_iff_eq.mpr c18
            have c18b1 : (t125 != t126) = false := bne_eq_false_iff_eq.mpr c18
            clear c18
            replace H := Option.bind_eq_some_iff.mp H
            obtain ⟨t127, A190, H⟩ := H
            replace H : ((coatcheckref01_Ticket.f k a0 a2).bind fun t128 => (some (t127 == t128))) = some r := H
            have A19 := Aside0.mk A190
            clear A190
            replace H := Option.bind_eq_some_iff.mp H
            obtain ⟨t128, A200, H⟩ := H
            replace H : (some (t127 == t128)) = some r := H
            have A20 := Aside0.mk A200
            clear A200
            obtain rfl := Option.some.inj H
            go_enter Try.func3, Try.ntmps3
            go_wp2_with (first | ((with_reducible refine gate_callee (f := 6) rfl ?_); refine goesL_ (some 9) rfl rfl Try.func6 (by kernel_rfl) rfl #[] rfl (by (try simp only [List.map_toArray, List.map_cons, List.map_nil]); first | done | rfl | (simp only [List.length_drop, List.length_take]; rfl)) ?_; (with_reducible refine (coatchecklaw01_awake.calls  true _ A5.out).mono ?_); rintro e w' ⟨rfl, ⟨nd, rfl⟩⟩; refine ⟨_, rfl, ?_⟩) | ((with_reducible refine gate_callee (f := 7) rfl ?_); refine goesL_ (some 13) rfl rfl Try.func7 (by kernel_rfl) rfl #[.int .i64 a0, .int .u64 a2] rfl (by (try simp only [List.map_toArray, List.map_cons, List.map_nil]); first | done | rfl | (simp only [List.length_drop, List.length_take]; rfl)) ?_; (with_reducible refine (pack_Head.calls a0 a2 t119 _ A7.out).mono ?_); rintro e w' ⟨rfl, ⟨nd, rfl⟩⟩; refine ⟨_, rfl, ?_⟩) | ((with_reducible refine gate_callee (f := 8) rfl ?_); refine goesL_ (some 16) rfl rfl Try.func8 (by kernel_rfl) rfl #[.int .i64 a0, .int .u64 a2] rfl (by (try simp only [List.map_toArray, List.map_cons, List.map_nil]); first | done | rfl | (simp only [List.length_drop, List.length_take]; rfl)) ?_; (with_reducible refine (coatcheckref01_Head.calls k a0 a2 t120 _ A8.out).mono ?_); rintro e w' ⟨rfl, ⟨nd, rfl⟩⟩; refine ⟨_, rfl, ?_⟩) | (go_at_call 9; (with_reducible refine (pack_Entry.calls a2 a0 a1 t121 _ A10.out).mono ?_); rintro e w' ⟨rfl, ⟨nd, rfl⟩⟩) | (go_at_call 10; (with_reducible refine (coatcheckref01_Entry.calls k a2 a0 a1 t122 _ A11.out).mono ?_); rintro e w' ⟨rfl, ⟨nd, rfl⟩⟩) | (go_at_call 11; (with_reducible refine (pack_Announce.calls a2 a3 t123 _ A13.out).mono ?_); rintro e w' ⟨rfl, ⟨nd, rfl⟩⟩) | (go_at_call 12; (with_reducible refine (coatcheckref01_Announce.calls k a2 a3 t124 _ A14.out).mono ?_); rintro e w' ⟨rfl, ⟨nd, rfl⟩⟩) | (go_at_call 13; (with_reducible refine (pack_Slab.calls a0 a1 a2 t125 _ A16.out).mono ?_); rintro e w' ⟨rfl, ⟨nd, rfl⟩⟩) | (go_at_call 14; (with_reducible refine (coatcheckref01_Slab.calls k a0 a1 a2 t126 _ A17.out).mono ?_); rintro e w' ⟨rfl, ⟨nd, rfl⟩⟩) | (go_at_call 15; (with_reducible refine (pack_Ticket.calls a0 a2 t127 _ A19.out).mono ?_); rintro e w' ⟨rfl, ⟨nd, rfl⟩⟩) | (go_at_call 16; (with_reducible refine (coatcheckref01_Ticket.calls k a0 a2 t128 _ A20.out).mono ?_); rintro e w' ⟨rfl, ⟨nd, rfl⟩⟩))
            go_ret
            exact ⟨by first | rfl | (simp; done) | (simp [*]; done), by repeat (first | exact Drawn0.refl _ | apply Drawn0.step)⟩
          · rw [if_neg c18] at H
            have c18b0 : (t125 == t126) = false := beq_eq_false_iff_ne.mpr c18
            have c18b1 : (t125 != t126) = true := bne_iff_ne.mpr c18
            obtain rfl := Option.some.inj H
            go_enter Try.func3, Try.ntmps3
            go_wp2_with (first | ((with_reducible refine gate_callee (f := 6) rfl ?_); refine goesL_ (some 9) rfl rfl Try.func6 (by kernel_rfl) rfl #[] rfl (by (try simp only [List.map_toArray, List.map_cons, List.map_nil]); first | done | rfl | (simp only [List.length_drop, List.length_take]; rfl)) ?_; (with_reducible refine (coatchecklaw01_awake.calls  true _ A5.out).mono ?_); rintro e w' ⟨rfl, ⟨nd, rfl⟩⟩; refine ⟨_, rfl, ?_⟩) | ((with_reducible refine gate_callee (f := 7) rfl ?_); refine goesL_ (some 13) rfl rfl Try.func7 (by kernel_rfl) rfl #[.int .i64 a0, .int .u64 a2] rfl (by (try simp only [List.map_toArray, List.map_cons, List.map_nil]); first | done | rfl | (simp only [List.length_drop, List.length_take]; rfl)) ?_; (with_reducible refine (pack_Head.calls a0 a2 t119 _ A7.out).mono ?_); rintro e w' ⟨rfl, ⟨nd, rfl⟩⟩; refine ⟨_, rfl, ?_⟩) | ((with_reducible refine gate_callee (f := 8) rfl ?_); refine goesL_ (some 16) rfl rfl Try.func8 (by kernel_rfl) rfl #[.int .i64 a0, .int .u64 a2] rfl (by (try simp only [List.map_toArray, List.map_cons, List.map_nil]); first | done | rfl | (simp only [List.length_drop, List.length_take]; rfl)) ?_; (with_reducible refine (coatcheckref01_Head.calls k a0 a2 t120 _ A8.out).mono ?_); rintro e w' ⟨rfl, ⟨nd, rfl⟩⟩; refine ⟨_, rfl, ?_⟩) | (go_at_call 9; (with_reducible refine (pack_Entry.calls a2 a0 a1 t121 _ A10.out).mono ?_); rintro e w' ⟨rfl, ⟨nd, rfl⟩⟩) | (go_at_call 10; (with_reducible refine (coatcheckref01_Entry.calls k a2 a0 a1 t122 _ A11.out).mono ?_); rintro e w' ⟨rfl, ⟨nd, rfl⟩⟩) | (go_at_call 11; (with_reducible refine (pack_Announce.calls a2 a3 t123 _ A13.out).mono ?_); rintro e w' ⟨rfl, ⟨nd, rfl⟩⟩) | (go_at_call 12; (with_reducible refine (coatcheckref01_Announce.calls k a2 a3 t124 _ A14.out).mono ?_); rintro e w' ⟨rfl, ⟨nd, rfl⟩⟩) | (go_at_call 13; (with_reducible refine (pack_Slab.calls a0 a1 a2 t125 _ A16.out).mono ?_); rintro e w' ⟨rfl, ⟨nd, rfl⟩⟩) | (go_at_call 14; (with_reducible refine (coatcheckref01_Slab.calls k a0 a1 a2 t126 _ A17.out).mono ?_); rintro e w' ⟨rfl, ⟨nd, rfl⟩⟩))
            go_ret
            exact ⟨by first | rfl | (simp; done) | (simp [*]; done), by repeat (first | exact Drawn0.refl _ | apply Drawn0.step)⟩
        · rw [if_neg c15] at H
          have c15b0 : (t123 == t124) = false := beq_eq_false_iff_ne.mpr c15
          have c15b1 : (t123 != t124) = true := bne_iff_ne.mpr c15
          obtain rfl := Option.some.inj H
          go_enter Try.func3, Try.ntmps3
          go_wp2_with (first | ((with_reducible refine gate_callee (f := 6) rfl ?_); refine goesL_ (some 9) rfl rfl Try.func6 (by kernel_rfl) rfl #[] rfl (by (try simp only [List.map_toArray, List.map_cons, List.map_nil]); first | done | rfl | (simp only [List.length_drop, List.length_take]; rfl)) ?_; (with_reducible refine (coatchecklaw01_awake.calls  true _ A5.out).mono ?_); rintro e w' ⟨rfl, ⟨nd, rfl⟩⟩; refine ⟨_, rfl, ?_⟩) | ((with_reducible refine gate_callee (f := 7) rfl ?_); refine goesL_ (some 13) rfl rfl Try.func7 (by kernel_rfl) rfl #[.int .i64 a0, .int .u64 a2] rfl (by (try simp only [List.map_toArray, List.map_cons, List.map_nil]); first | done | rfl | (simp only [List.length_drop, List.length_take]; rfl)) ?_; (with_reducible refine (pack_Head.calls a0 a2 t119 _ A7.out).mono ?_); rintro e w' ⟨rfl, ⟨nd, rfl⟩⟩; refine ⟨_, rfl, ?_⟩) | ((with_reducible refine gate_callee (f := 8) rfl ?_); refine goesL_ (some 16) rfl rfl Try.func8 (by kernel_rfl) rfl #[.int .i64 a0, .int .u64 a2] rfl (by (try simp only [List.map_toArray, List.map_cons, List.map_nil]); first | done | rfl | (simp only [List.length_drop, List.length_take]; rfl)) ?_; (with_reducible refine (coatcheckref01_Head.calls k a0 a2 t120 _ A8.out).mono ?_); rintro e w' ⟨rfl, ⟨nd, rfl⟩⟩; refine ⟨_, rfl, ?_⟩) | (go_at_call 9; (with_reducible refine (pack_Entry.calls a2 a0 a1 t121 _ A10.out).mono ?_); rintro e w' ⟨rfl, ⟨nd, rfl⟩⟩) | (go_at_call 10; (with_reducible refine (coatcheckref01_Entry.calls k a2 a0 a1 t122 _ A11.out).mono ?_); rintro e w' ⟨rfl, ⟨nd, rfl⟩⟩) | (go_at_call 11; (with_reducible refine (pack_Announce.calls a2 a3 t123 _ A13.out).mono ?_); rintro e w' ⟨rfl, ⟨nd, rfl⟩⟩) | (go_at_call 12; (with_reducible refine (coatcheckref01_Announce.calls k a2 a3 t124 _ A14.out).mono ?_); rintro e w' ⟨rfl, ⟨nd, rfl⟩⟩))
          go_ret
          exact ⟨by first | rfl | (simp; done) | (simp [*]; done), by repeat (first | exact Drawn0.refl _ | apply Drawn0.step)⟩
      · rw [if_neg c12] at H
        have c12b0 : (t121 == t122) = false := beq_eq_false_iff_ne.mpr c12
        have c12b1 : (t121 != t122) = true := bne_iff_ne.mpr c12
        obtain rfl := Option.some.inj H
        go_enter Try.func3, Try.ntmps3
        go_wp2_with (first | ((with_reducible refine gate_callee (f := 6) rfl ?_); refine goesL_ (some 9) rfl rfl Try.func6 (by kernel_rfl) rfl #[] rfl (by (try simp only [List.map_toArray, List.map_cons, List.map_nil]); first | done | rfl | (simp only [List.length_drop, List.length_take]; rfl)) ?_; (with_reducible refine (coatchecklaw01_awake.calls  true _ A5.out).mono ?_); rintro e w' ⟨rfl, ⟨nd, rfl⟩⟩; refine ⟨_, rfl, ?_⟩) | ((with_reducible refine gate_callee (f := 7) rfl ?_); refine goesL_ (some 13) rfl rfl Try.func7 (by kernel_rfl) rfl #[.int .i64 a0, .int .u64 a2] rfl (by (try simp only [List.map_toArray, List.map_cons, List.map_nil]); first | done | rfl | (simp only [List.length_drop, List.length_take]; rfl)) ?_; (with_reducible refine (pack_Head.calls a0 a2 t119 _ A7.out).mono ?_); rintro e w' ⟨rfl, ⟨nd, rfl⟩⟩; refine ⟨_, rfl, ?_⟩) | ((with_reducible refine gate_callee (f := 8) rfl ?_); refine goesL_ (some 16) rfl rfl Try.func8 (by kernel_rfl) rfl #[.int .i64 a0, .int .u64 a2] rfl (by (try simp only [List.map_toArray, List.map_cons, List.map_nil]); first | done | rfl | (simp only [List.length_drop, List.length_take]; rfl)) ?_; (with_reducible refine (coatcheckref01_Head.calls k a0 a2 t120 _ A8.out).mono ?_); rintro e w' ⟨rfl, ⟨nd, rfl⟩⟩; refine ⟨_, rfl, ?_⟩) | (go_at_call 9; (with_reducible refine (pack_Entry.calls a2 a0 a1 t121 _ A10.out).mono ?_); rintro e w' ⟨rfl, ⟨nd, rfl⟩⟩) | (go_at_call 10; (with_reducible refine (coatcheckref01_Entry.calls k a2 a0 a1 t122 _ A11.out).mono ?_); rintro e w' ⟨rfl, ⟨nd, rfl⟩⟩))
        go_ret
        exact ⟨by first | rfl | (simp; done) | (simp [*]; done), by repeat (first | exact Drawn0.refl _ | apply Drawn0.step)⟩
    · rw [if_neg c9] at H
      have c9b0 : (t119 == t120) = false := beq_eq_false_iff_ne.mpr c9
      have c9b1 : (t119 != t120) = true := bne_iff_ne.mpr c9
      obtain rfl := Option.some.inj H
      go_enter Try.func3, Try.ntmps3
      go_wp2_with (first | ((with_reducible refine gate_callee (f := 6) rfl ?_); refine goesL_ (some 9) rfl rfl Try.func6 (by kernel_rfl) rfl #[] rfl (by (try simp only [List.map_toArray, List.map_cons, List.map_nil]); first | done | rfl | (simp only [List.length_drop, List.length_take]; rfl)) ?_; (with_reducible refine (coatchecklaw01_awake.calls  true _ A5.out).mono ?_); rintro e w' ⟨rfl, ⟨nd, rfl⟩⟩; refine ⟨_, rfl, ?_⟩) | ((with_reducible refine gate_callee (f := 7) rfl ?_); refine goesL_ (some 13) rfl rfl Try.func7 (by kernel_rfl) rfl #[.int .i64 a0, .int .u64 a2] rfl (by (try simp only [List.map_toArray, List.map_cons, List.map_nil]); first | done | rfl | (simp only [List.length_drop, List.length_take]; rfl)) ?_; (with_reducible refine (pack_Head.calls a0 a2 t119 _ A7.out).mono ?_); rintro e w' ⟨rfl, ⟨nd, rfl⟩⟩; refine ⟨_, rfl, ?_⟩) | ((with_reducible refine gate_callee (f := 8) rfl ?_); refine goesL_ (some 16) rfl rfl Try.func8 (by kernel_rfl) rfl #[.int .i64 a0, .int .u64 a2] rfl (by (try simp only [List.map_toArray, List.map_cons, List.map_nil]); first | done | rfl | (simp only [List.length_drop, List.length_take]; rfl)) ?_; (with_reducible refine (coatcheckref01_Head.calls k a0 a2 t120 _ A8.out).mono ?_); rintro e w' ⟨rfl, ⟨nd, rfl⟩⟩; refine ⟨_, rfl, ?_⟩))
      go_ret
      exact ⟨by first | rfl | (simp; done) | (simp [*]; done), by repeat (first | exact Drawn0.refl _ | apply Drawn0.step)⟩
  · replace c6 := Bool.eq_false_iff.mpr c6
    subst c6
    have H1 : (some false) = some r := by rw [if_neg (show ¬ (false = true) by decide)] at H; exact H
    clear H
    have H := H1
    clear H1
    obtain rfl := Option.some.inj H
    go_enter Try.func3, Try.ntmps3
    go_wp2_with (first | ((with_reducible refine gate_callee (f := 6) rfl ?_); refine goesL_ (some 9) rfl rfl Try.func6 (by kernel_rfl) rfl #[] rfl (by (try simp only [List.map_toArray, List.map_cons, List.map_nil]); first | done | rfl | (simp only [List.length_drop, List.length_take]; rfl)) ?_; (with_reducible refine (coatchecklaw01_awake.calls  false _ A5.out).mono ?_); rintro e w' ⟨rfl, ⟨nd, rfl⟩⟩; refine ⟨_, rfl, ?_⟩))
    go_ret
    exact ⟨by first | rfl | (simp; done) | (simp [*]; done), by repeat (first | exact Drawn0.refl _ | apply Drawn0.step)⟩

/-- THE ONE PURE STATEMENT of coatchecklaw01_PackMakes: yours. -/
def coatchecklaw01_PackMakes.Pure : Prop := ∀ (a0 : Int) (a1 : Int) (a2 : Int) (a3 : Bool), (Lit.int .i64 a0).wf = true → (Lit.int .i64 a1).wf = true → (Lit.int .u64 a2).wf = true → ∃ k, coatchecklaw01_PackMakes.f k a0 a1 a2 a3 = some true
theorem coatchecklaw01_PackMakes.walk (P : coatchecklaw01_PackMakes.Pure) (a0 : Int) (a1 : Int) (a2 : Int) (a3 : Bool) (w : World) (w0 : (Lit.int .i64 a0).wf = true) (w1 : (Lit.int .i64 a1).wf = true) (w2 : (Lit.int .u64 a2).wf = true) :
    Calls Try.prog 3 #[.int .i64 a0, .int .i64 a1, .int .u64 a2, .bool a3] w fun e w' => e = .returned (.bool true) ∧ Below w.heap.size w w' := by
  obtain ⟨k, h⟩ := P a0 a1 a2 a3 w0 w1 w2
  refine (coatchecklaw01_PackMakes.calls k a0 a1 a2 a3 true w h).mono ?_
  rintro e w' ⟨rfl, hd⟩
  exact ⟨rfl, hd.below⟩

end Go.Proofs.Ytnbelpndlkbepaa.PPackMakes
