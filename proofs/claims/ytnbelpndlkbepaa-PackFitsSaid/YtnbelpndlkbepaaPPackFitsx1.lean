-- PRINTED BY print.sh 35421559b90ae4d0a3588c463048766b98c2df88dd9212a6774a882060cdf62d: not written by this session
import Derived.Test.YtnbelpndlkbepaaPPackFitsx0
namespace Go.Proofs.Ytnbelpndlkbepaa.PPackFits
open Go.RowKit Go.Proofs.YtnbelpndlkbepaaW.PrintWords Go.Proofs.YtnbelpndlkbepaaW.PrintLast Go.Proofs.YtnbelpndlkbepaaW.PrintMore
attribute [local go_sem] max2_int min2_int max_two min_two max_three min_three max_four min_four   -- for this text's walks alone
set_option linter.unusedVariables false
set_option linter.unusedSimpArgs false

/-! ### pack_Head: function 7 -/
def pack_Head.f (a0 : Int) (a1 : Int) : Option (Int) := some (Go.bits .or .u64 (IntKind.u64.wrap (a1 * 4294967296)) ((wrap64 (a0 + 1)) % 4294967296))
set_option maxHeartbeats 8000000 in
set_option maxRecDepth 100000 in
theorem pack_Head.calls (a0 : Int) (a1 : Int) (r : Int) (w : World) (h : pack_Head.f a0 a1 = some r) :
    Calls Try.prog 7 #[.int .i64 a0, .int .u64 a1] w fun e w' => e = .returned (.int .u64 r) ∧ Drawn0 w w' := by
  have H : (some (Go.bits .or .u64 (IntKind.u64.wrap (a1 * 4294967296)) ((wrap64 (a0 + 1)) % 4294967296))) = some r := h
  clear h
  obtain rfl := Option.some.inj H
  go_enter Try.func7, Try.ntmps7
  go_wp2
  go_ret
  exact ⟨by first | rfl | (simp; done) | (simp [*]; done), by repeat (first | exact Drawn0.refl _ | apply Drawn0.step)⟩

/-! ### pack_Ticket: function 15 -/
def pack_Ticket.f (a0 : Int) (a1 : Int) : Option (Int) := some (Go.bits .or .u64 (IntKind.u64.wrap (a1 * 65536)) (IntKind.u64.wrap (IntKind.u16.wrap (wrap64 (a0 + 1)))))
set_option maxHeartbeats 8000000 in
set_option maxRecDepth 100000 in
theorem pack_Ticket.calls (a0 : Int) (a1 : Int) (r : Int) (w : World) (h : pack_Ticket.f a0 a1 = some r) :
    Calls Try.prog 15 #[.int .i64 a0, .int .u64 a1] w fun e w' => e = .returned (.int .u64 r) ∧ Drawn0 w w' := by
  have H : (some (Go.bits .or .u64 (IntKind.u64.wrap (a1 * 65536)) (IntKind.u64.wrap (IntKind.u16.wrap (wrap64 (a0 + 1)))))) = some r := h
  clear h
  obtain rfl := Option.some.inj H
  go_enter Try.func15, Try.ntmps15
  go_wp2
  go_ret
  exact ⟨by first | rfl | (simp; done) | (simp [*]; done), by repeat (first | exact Drawn0.refl _ | apply Drawn0.step)⟩

/-! ### coatchecklaw01_awake: function 6 -/
def coatchecklaw01_awake.f  : Option (Bool) := (pack_Head.f 4 1).bind fun t101 => (if t101 = 4294967301 then ((pack_Ticket.f 2 3).bind fun t102 => (some (t102 == 196611))) else (some false))
set_option maxHeartbeats 8000000 in
set_option maxRecDepth 100000 in
theorem coatchecklaw01_awake.calls  (r : Bool) (w : World) (h : coatchecklaw01_awake.f  = some r) :
    Calls Try.prog 6 #[] w fun e w' => e = .returned (.bool r) ∧ Drawn0 w w' := by
  have H : ((pack_Head.f 4 1).bind fun t101 => (if t101 = 4294967301 then ((pack_Ticket.f 2 3).bind fun t102 => (some (t102 == 196611))) else (some false))) = some r := h
  clear h
  replace H := Option.bind_eq_some_iff.mp H
  obtain ⟨t101, A10, H⟩ := H
  replace H : (if t101 = 4294967301 then ((pack_Ticket.f 2 3).bind fun t102 => (some (t102 == 196611))) else (some false)) = some r := H
  have A1 := Aside0.mk A10
  clear A10
  by_cases c2 : t101 = 4294967301
  · rw [if_pos c2] at H
    have c2b0 : (t101 == 4294967301) = true := beq_iff_eq.mpr c2
    have c2b1 : (t101 != 4294967301) = false := bne_eq_false_iff_eq.mpr c2
    clear c2
    replace H := Option.bind_eq_some_iff.mp H
    obtain ⟨t102, A30, H⟩ := H
    replace H : (some (t102 == 196611)) = some r := H
    have A3 := Aside0.mk A30
    clear A30
    obtain rfl := Option.some.inj H
    go_enter Try.func6, Try.ntmps6
    go_wp2_with (first | ((with_reducible refine gate_callee (f := 7) rfl ?_); refine goesL_ (some 1) rfl rfl Try.func7 (by kernel_rfl) rfl #[.int .i64 4, .int .u64 1] rfl (by (try simp only [List.map_toArray, List.map_cons, List.map_nil]); first | done | rfl | (simp only [List.length_drop, List.length_take]; rfl)) ?_; (with_reducible refine (pack_Head.calls 4 1 t101 _ A1.out).mono ?_); rintro e w' ⟨rfl, ⟨nd, rfl⟩⟩; refine ⟨_, rfl, ?_⟩) | (go_at_call 15; (with_reducible refine (pack_Ticket.calls 2 3 t102 _ A3.out).mono ?_); rintro e w' ⟨rfl, ⟨nd, rfl⟩⟩))
    go_ret
    exact ⟨by first | rfl | (simp; done) | (simp [*]; done), by repeat (first | exact Drawn0.refl _ | apply Drawn0.step)⟩
  · rw [if_neg c2] at H
    have c2b0 : (t101 == 4294967301) = false := beq_eq_false_iff_ne.mpr c2
    have c2b1 : (t101 != 4294967301) = true := bne_iff_ne.mpr c2
    obtain rfl := Option.some.inj H
    go_enter Try.func6, Try.ntmps6
    go_wp2_with (first | ((with_reducible refine gate_callee (f := 7) rfl ?_); refine goesL_ (some 1) rfl rfl Try.func7 (by kernel_rfl) rfl #[.int .i64 4, .int .u64 1] rfl (by (try simp only [List.map_toArray, List.map_cons, List.map_nil]); first | done | rfl | (simp only [List.length_drop, List.length_take]; rfl)) ?_; (with_reducible refine (pack_Head.calls 4 1 t101 _ A1.out).mono ?_); rintro e w' ⟨rfl, ⟨nd, rfl⟩⟩; refine ⟨_, rfl, ?_⟩))
    go_ret
    exact ⟨by first | rfl | (simp; done) | (simp [*]; done), by repeat (first | exact Drawn0.refl _ | apply Drawn0.step)⟩

/-! ### pack_Entry: function 9 -/
def pack_Entry.f (a0 : Int) (a1 : Int) (a2 : Int) : Option (Int) := some (Go.bits .or .u64 (Go.bits .or .u64 (IntKind.u64.wrap (a0 * 1048576)) (IntKind.u64.wrap ((IntKind.u64.wrap (IntKind.u16.wrap (wrap64 (a1 + 1)))) * 16))) (((((a2) % 256) * 16) % 256) / 16))
set_option maxHeartbeats 8000000 in
set_option maxRecDepth 100000 in
theorem pack_Entry.calls (a0 : Int) (a1 : Int) (a2 : Int) (r : Int) (w : World) (h : pack_Entry.f a0 a1 a2 = some r) :
    Calls Try.prog 9 #[.int .u64 a0, .int .i64 a1, .int .i64 a2] w fun e w' => e = .returned (.int .u64 r) ∧ Drawn0 w w' := by
  have H : (some (Go.bits .or .u64 (Go.bits .or .u64 (IntKind.u64.wrap (a0 * 1048576)) (IntKind.u64.wrap ((IntKind.u64.wrap (IntKind.u16.wrap (wrap64 (a1 + 1)))) * 16))) (((((a2) % 256) * 16) % 256) / 16))) = some r := h
  clear h
  obtain rfl := Option.some.inj H
  go_enter Try.func9, Try.ntmps9
  go_wp2
  go_ret
  exact ⟨by first | rfl | (simp; done) | (simp [*]; done), by repeat (first | exact Drawn0.refl _ | apply Drawn0.step)⟩

/-! ### pack_Announce: function 11 -/
def pack_Announce.f (a0 : Int) (a1 : Bool) : Option (Int) := if a1 = true then (some (Go.bits .or .u64 (IntKind.u64.wrap (a0 * 2)) 1)) else (some (IntKind.u64.wrap (a0 * 2)))
set_option maxHeartbeats 8000000 in
set_option maxRecDepth 100000 in
theorem pack_Announce.calls (a0 : Int) (a1 : Bool) (r : Int) (w : World) (h : pack_Announce.f a0 a1 = some r) :
    Calls Try.prog 11 #[.int .u64 a0, .bool a1] w fun e w' => e = .returned (.int .u64 r) ∧ Drawn0 w w' := by
  have H : (if a1 = true then (some (Go.bits .or .u64 (IntKind.u64.wrap (a0 * 2)) 1)) else (some (IntKind.u64.wrap (a0 * 2)))) = some r := h
  clear h
  by_cases c3 : a1 = true
  · subst c3
    have H1 : (some (Go.bits .or .u64 (IntKind.u64.wrap (a0 * 2)) 1)) = some r := by rw [if_pos rfl] at H; exact H
    clear H
    have H := H1
    clear H1
    obtain rfl := Option.some.inj H
    go_enter Try.func11, Try.ntmps11
    go_wp2
    go_ret
    exact ⟨by first | rfl | (simp; done) | (simp [*]; done), by repeat (first | exact Drawn0.refl _ | apply Drawn0.step)⟩
  · replace c3 := Bool.eq_false_iff.mpr c3
    subst c3
    have H1 : (some (IntKind.u64.wrap (a0 * 2))) = some r := by rw [if_neg (show ¬ (false = true) by decide)] at H; exact H
    clear H
    have H := H1
    clear H1
    obtain rfl := Option.some.inj H
    go_enter Try.func11, Try.ntmps11
    go_wp2
    go_ret
    exact ⟨by first | rfl | (simp; done) | (simp [*]; done), by repeat (first | exact Drawn0.refl _ | apply Drawn0.step)⟩

/-! ### pack_Slab: function 13 -/
def pack_Slab.f (a0 : Int) (a1 : Int) (a2 : Int) : Option (Int) := some (Go.bits .or .u64 (Go.bits .or .u64 (IntKind.u64.wrap (a2 * 65536)) (IntKind.u64.wrap (IntKind.u16.wrap ((IntKind.u16.wrap (a1)) * 16)))) (((((a0) % 256) * 16) % 256) / 16))
set_option maxHeartbeats 8000000 in
set_option maxRecDepth 100000 in
theorem pack_Slab.calls (a0 : Int) (a1 : Int) (a2 : Int) (r : Int) (w : World) (h : pack_Slab.f a0 a1 a2 = some r) :
    Calls Try.prog 13 #[.int .i64 a0, .int .i64 a1, .int .u64 a2] w fun e w' => e = .returned (.int .u64 r) ∧ Drawn0 w w' := by
  have H : (some (Go.bits .or .u64 (Go.bits .or .u64 (IntKind.u64.wrap (a2 * 65536)) (IntKind.u64.wrap (IntKind.u16.wrap ((IntKind.u16.wrap (a1)) * 16)))) (((((a0) % 256) * 16) % 256) / 16))) = some r := h
  clear h
  obtain rfl := Option.some.inj H
  go_enter Try.func13, Try.ntmps13
  go_wp2
  go_ret
  exact ⟨by first | rfl | (simp; done) | (simp [*]; done), by repeat (first | exact Drawn0.refl _ | apply Drawn0.step)⟩

/-! ### pack_Unhead: function 17 -/
def pack_Unhead.f (a0 : Int) : Option (Int × Int) := some (((a0) % 4294967296) - 1, a0 / 4294967296)
set_option maxHeartbeats 8000000 in
set_option maxRecDepth 100000 in
theorem pack_Unhead.calls (a0 : Int) (r1 : Int) (r2 : Int) (w : World) (h : pack_Unhead.f a0 = some (r1, r2)) :
    Calls Try.prog 17 #[.int .u64 a0] w fun e w' => e = .returned (.tuple #[.int .i64 r1, .int .u64 r2]) ∧ Drawn0 w w' := by
  have H : (some (((a0) % 4294967296) - 1, a0 / 4294967296)) = some (r1, r2) := h
  clear h
  simp only [Option.some.injEq, Prod.mk.injEq] at H
  obtain ⟨rfl, rfl⟩ := H
  go_enter Try.func17, Try.ntmps17
  go_wp2
  go_ret2
  exact ⟨by first | rfl | (simp; done) | (simp [*]; done), by repeat (first | exact Drawn0.refl _ | apply Drawn0.step)⟩

/-! ### pack_Unentry: function 19 -/
def pack_Unentry.f (a0 : Int) : Option (Int × Int × Int) := some (a0 / 1048576, wrap64 ((wrap64 (IntKind.u16.wrap (a0 / 16))) - 1), ((((a0) % 256) * 16) % 256) / 16)
set_option maxHeartbeats 8000000 in
set_option maxRecDepth 100000 in
theorem pack_Unentry.calls (a0 : Int) (r1 : Int) (r2 : Int) (r3 : Int) (w : World) (h : pack_Unentry.f a0 = some (r1, r2, r3)) :
    Calls Try.prog 19 #[.int .u64 a0] w fun e w' => e = .returned (.tuple #[.int .u64 r1, .int .i64 r2, .int .i64 r3]) ∧ Drawn0 w w' := by
  have H : (some (a0 / 1048576, wrap64 ((wrap64 (IntKind.u16.wrap (a0 / 16))) - 1), ((((a0) % 256) * 16) % 256) / 16)) = some (r1, r2, r3) := h
  clear h
  simp only [Option.some.injEq, Prod.mk.injEq] at H
  obtain ⟨rfl, rfl, rfl⟩ := H
  go_enter Try.func19, Try.ntmps19
  go_wp2
  go_ret3
  exact ⟨by first | rfl | (simp; done) | (simp [*]; done), by repeat (first | exact Drawn0.refl _ | apply Drawn0.step)⟩

/-! ### pack_Unannounce: function 21 -/
def pack_Unannounce.f (a0 : Int) : Option (Int × Bool) := some (a0 / 2, ((Go.bits .and .u64 a0 1) == 1))
set_option maxHeartbeats 8000000 in
set_option maxRecDepth 100000 in
theorem pack_Unannounce.calls (a0 : Int) (r1 : Int) (r2 : Bool) (w : World) (h : pack_Unannounce.f a0 = some (r1, r2)) :
    Calls Try.prog 21 #[.int .u64 a0] w fun e w' => e = .returned (.tuple #[.int .u64 r1, .bool r2]) ∧ Drawn0 w w' := by
  have H : (some (a0 / 2, ((Go.bits .and .u64 a0 1) == 1))) = some (r1, r2) := h
  clear h
  simp only [Option.some.injEq, Prod.mk.injEq] at H
  obtain ⟨rfl, rfl⟩ := H
  go_enter Try.func21, Try.ntmps21
  go_wp2
  go_ret2
  exact ⟨by first | rfl | (simp; done) | (simp [*]; done), by repeat (first | exact Drawn0.refl _ | apply Drawn0.step)⟩

/-! ### pack_Unslab: function 22 -/
def pack_Unslab.f (a0 : Int) : Option (Int × Int × Int) := some (((((a0) % 256) * 16) % 256) / 16, wrap64 ((IntKind.u16.wrap (a0)) / 16), a0 / 65536)
set_option maxHeartbeats 8000000 in
set_option maxRecDepth 100000 in
theorem pack_Unslab.calls (a0 : Int) (r1 : Int) (r2 : Int) (r3 : Int) (w : World) (h : pack_Unslab.f a0 = some (r1, r2, r3)) :
    Calls Try.prog 22 #[.int .u64 a0] w fun e w' => e = .returned (.tuple #[.int .i64 r1, .int .i64 r2, .int .u64 r3]) ∧ Drawn0 w w' := by
  have H : (some (((((a0) % 256) * 16) % 256) / 16, wrap64 ((IntKind.u16.wrap (a0)) / 16), a0 / 65536)) = some (r1, r2, r3) := h
  clear h
  simp only [Option.some.injEq, Prod.mk.injEq] at H
  obtain ⟨rfl, rfl, rfl⟩ := H
  go_enter Try.func22, Try.ntmps22
  go_wp2
  go_ret3
  exact ⟨by first | rfl | (simp; done) | (simp [*]; done), by repeat (first | exact Drawn0.refl _ | apply Drawn0.step)⟩

/-! ### pack_Unticket: function 24 -/
def pack_Unticket.f (a0 : Int) : Option (Int × Int) := some (wrap64 ((wrap64 (IntKind.u16.wrap (a0))) - 1), a0 / 65536)
set_option maxHeartbeats 8000000 in
set_option maxRecDepth 100000 in
theorem pack_Unticket.calls (a0 : Int) (r1 : Int) (r2 : Int) (w : World) (h : pack_Unticket.f a0 = some (r1, r2)) :
    Calls Try.prog 24 #[.int .u64 a0] w fun e w' => e = .returned (.tuple #[.int .i64 r1, .int .u64 r2]) ∧ Drawn0 w w' := by
  have H : (some (wrap64 ((wrap64 (IntKind.u16.wrap (a0))) - 1), a0 / 65536)) = some (r1, r2) := h
  clear h
  simp only [Option.some.injEq, Prod.mk.injEq] at H
  obtain ⟨rfl, rfl⟩ := H
  go_enter Try.func24, Try.ntmps24
  go_wp2
  go_ret2
  exact ⟨by first | rfl | (simp; done) | (simp [*]; done), by repeat (first | exact Drawn0.refl _ | apply Drawn0.step)⟩

/-! ### coatchecklaw01_PackFits: function 5 -/
def coatchecklaw01_PackFits.j0 : Nat → Bool → Int → Int → Int → Int → Int → Bool → Option (Bool)
  | 0, _, _, _, _, _, _, _ => none
  | k + 1, x5, x13, x14, x15, x16, x17, x60 => if x60 = true then (some false) else ((pack_Entry.f x17 x14 x15).bind fun t107 => ((pack_Unentry.f t107).bind fun bt108 => ((pack_Announce.f x17 x5).bind fun t111 => ((pack_Unannounce.f t111).bind fun bt112 => ((pack_Slab.f x15 x16 x17).bind fun t114 => ((pack_Unslab.f t114).bind fun bt115 => ((pack_Ticket.f x13 x17).bind fun t118 => ((pack_Unticket.f t118).bind fun bt119 => (if bt108.1 = x17 then (if bt108.2.1 = x14 then (if bt108.2.2 = x15 then (if bt112.1 = x17 then (if (bt112.2 == x5) = true then (if bt115.1 = x15 then (if bt115.2.1 = x16 then (if bt115.2.2 = x17 then (if bt119.1 = x13 then (some (bt119.2 == x17)) else (some false)) else (some false)) else (some false)) else (some false)) else (some false)) else (some false)) else (some false)) else (some false)) else (some false))))))))))
def coatchecklaw01_PackFits.f (k : Nat) (a0 : Int) (a1 : Int) (a2 : Int) (a3 : Int) (a4 : Int) (a5 : Bool) : Option (Bool) := (coatchecklaw01_awake.f).bind fun t103 => (if t103 = true then ((pack_Head.f (wrap64 ((wrap64 (a0)) - 1)) (IntKind.u64.wrap (a4))).bind fun t104 => ((pack_Unhead.f t104).bind fun bt105 => (if bt105.1 = (wrap64 ((wrap64 (a0)) - 1)) then (coatchecklaw01_PackFits.j0 k a5 (wrap64 ((wrap64 (a0)) - 1)) (wrap64 ((wrap64 (a1)) - 1)) (Int.tmod (wrap64 (a2)) 16) (Int.tmod (wrap64 (a3)) 16) (IntKind.u64.wrap (a4)) (bt105.2 != (IntKind.u64.wrap (a4)))) else (coatchecklaw01_PackFits.j0 k a5 (wrap64 ((wrap64 (a0)) - 1)) (wrap64 ((wrap64 (a1)) - 1)) (Int.tmod (wrap64 (a2)) 16) (Int.tmod (wrap64 (a3)) 16) (IntKind.u64.wrap (a4)) true)))) else (some false))
theorem coatchecklaw01_PackFits.mono_l : ∀ k, (∀ y0 y1 y2 y3 y4 y5 y6, LeO (coatchecklaw01_PackFits.j0 k y0 y1 y2 y3 y4 y5 y6) (coatchecklaw01_PackFits.j0 (k + 1) y0 y1 y2 y3 y4 y5 y6))
  | 0 => fun _ _ _ _ _ _ _ r h => by simp [coatchecklaw01_PackFits.j0] at h
  | k + 1 => by
    have ih0 := coatchecklaw01_PackFits.mono_l k
    · intro y0 y1 y2 y3 y4 y5 y6
      unfold coatchecklaw01_PackFits.j0
      repeat' first
      | (with_reducible exact ih0 _ _ _ _ _ _ _)
      | (with_reducible exact LeO.refl _)
      | (with_reducible exact LeO.none _)
      | (with_reducible refine LeO.ite ?_ ?_)
      | (with_reducible refine LeO.bind ?_ (fun _ => ?_))
      | exact ih0 _ _ _ _ _ _ _
      | exact LeO.none _
      | refine LeO.ite ?_ ?_
      | refine LeO.bind ?_ (fun _ => ?_)
theorem coatchecklaw01_PackFits.mono : ∀ a0 a1 a2 a3 a4 a5 k, LeO (coatchecklaw01_PackFits.f k a0 a1 a2 a3 a4 a5) (coatchecklaw01_PackFits.f (k + 1) a0 a1 a2 a3 a4 a5) := by
  intro a0 a1 a2 a3 a4 a5 k
  have ih0 := coatchecklaw01_PackFits.mono_l k
  unfold coatchecklaw01_PackFits.f
  repeat' first
      | (with_reducible exact ih0 _ _ _ _ _ _ _)
      | (with_reducible exact LeO.refl _)
      | (with_reducible exact LeO.none _)
      | (with_reducible refine LeO.ite ?_ ?_)
      | (with_reducible refine LeO.bind ?_ (fun _ => ?_))
      | exact ih0 _ _ _ _ _ _ _
      | exact LeO.none _
      | refine LeO.ite ?_ ?_
      | refine LeO.bind ?_ (fun _ => ?_)
set_option maxHeartbeats 8000000 in
set_option maxRecDepth 100000 in
theorem coatchecklaw01_PackFits.calls (k : Nat) (a0 : Int) (a1 : Int) (a2 : Int) (a3 : Int) (a4 : Int) (a5 : Bool) (r : Bool) (w : World) (h : coatchecklaw01_PackFits.f k a0 a1 a2 a3 a4 a5 = some r) :
    Calls Try.prog 5 #[.int .u16 a0, .int .u16 a1, .int .u8 a2, .int .u8 a3, .int .u32 a4, .bool a5] w fun e w' => e = .returned (.bool r) ∧ Drawn0 w w' := by
  have H : ((coatchecklaw01_awake.f).bind fun t103 => (if t103 = true then ((pack_Head.f (wrap64 ((wrap64 (a0)) - 1)) (IntKind.u64.wrap (a4))).bind fun t104 => ((pack_Unhead.f t104).bind fun bt105 => (if bt105.1 = (wrap64 ((wrap64 (a0)) - 1)) then (coatchecklaw01_PackFits.j0 k a5 (wrap64 ((wrap64 (a0)) - 1)) (wrap64 ((wrap64 (a1)) - 1)) (Int.tmod (wrap64 (a2)) 16) (Int.tmod (wrap64 (a3)) 16) (IntKind.u64.wrap (a4)) (bt105.2 != (IntKind.u64.wrap (a4)))) else (coatchecklaw01_PackFits.j0 k a5 (wrap64 ((wrap64 (a0)) - 1)) (wrap64 ((wrap64 (a1)) - 1)) (Int.tmod (wrap64 (a2)) 16) (Int.tmod (wrap64 (a3)) 16) (IntKind.u64.wrap (a4)) true)))) else (some false))) = some r := h
  clear h
  replace H := Option.bind_eq_some_iff.mp H
  obtain ⟨t103, A70, H⟩ := H
  replace H : (if t103 = true then ((pack_Head.f (wrap64 ((wrap64 (a0)) - 1)) (IntKind.u64.wrap (a4))).bind fun t104 => ((pack_Unhead.f t104).bind fun bt105 => (if bt105.1 = (wrap64 ((wrap64 (a0)) - 1)) then (coatchecklaw01_PackFits.j0 k a5 (wrap64 ((wrap64 (a0)) - 1)) (wrap64 ((wrap64 (a1)) - 1)) (Int.tmod (wrap64 (a2)) 16) (Int.tmod (wrap64 (a3)) 16) (IntKind.u64.wrap (a4)) (bt105.2 != (IntKind.u64.wrap (a4)))) else (coatchecklaw01_PackFits.j0 k a5 (wrap64 ((wrap64 (a0)) - 1)) (wrap64 ((wrap64 (a1)) - 1)) (Int.tmod (wrap64 (a2)) 16) (Int.tmod (wrap64 (a3)) 16) (IntKind.u64.wrap (a4)) true)))) else (some false)) = some r := H
  have A7 := Aside0.mk A70
  clear A70
  by_cases c8 : t103 = true
  · subst c8
    have H1 : ((pack_Head.f (wrap64 ((wrap64 (a0)) - 1)) (IntKind.u64.wrap (a4))).bind fun t104 => ((pack_Unhead.f t104).bind fun bt105 => (if bt105.1 = (wrap64 ((wrap64 (a0)) - 1)) then (coatchecklaw01_PackFits.j0 k a5 (wrap64 ((wrap64 (a0)) - 1)) (wrap64 ((wrap64 (a1)) - 1)) (Int.tmod (wrap64 (a2)) 16) (Int.tmod (wrap64 (a3)) 16) (IntKind.u64.wrap (a4)) (bt105.2 != (IntKind.u64.wrap (a4)))) else (coatchecklaw01_PackFits.j0 k a5 (wrap64 ((wrap64 (a0)) - 1)) (wrap64 ((wrap64 (a1)) - 1)) (Int.tmod (wrap64 (a2)) 16) (Int.tmod (wrap64 (a3)) 16) (IntKind.u64.wrap (a4)) true)))) = some r := by rw [if_pos rfl] at H; exact H
    clear H
    have H := H1
    clear H1
    replace H := Option.bind_eq_some_iff.mp H
    obtain ⟨t104, A90, H⟩ := H
    replace H : ((pack_Unhead.f t104).bind fun bt105 => (if bt105.1 = (wrap64 ((wrap64 (a0)) - 1)) then (coatchecklaw01_PackFits.j0 k a5 (wrap64 ((wrap64 (a0)) - 1)) (wrap64 ((wrap64 (a1)) - 1)) (Int.tmod (wrap64 (a2)) 16) (Int.tmod (wrap64 (a3)) 16) (IntKind.u64.wrap (a4)) (bt105.2 != (IntKind.u64.wrap (a4)))) else (coatchecklaw01_PackFits.j0 k a5 (wrap64 ((wrap64 (a0)) - 1)) (wrap64 ((wrap64 (a1)) - 1)) (Int.tmod (wrap64 (a2)) 16) (Int.tmod (wrap64 (a3)) 16) (IntKind.u64.wrap (a4)) true))) = some r := H
    have A9 := Aside0.mk A90
    clear A90
    replace H := Option.bind_eq_some_iff.mp H
    obtain ⟨⟨t105, t106⟩, A100, H⟩ := H
    replace H : (if t105 = (wrap64 ((wrap64 (a0)) - 1)) then (coatchecklaw01_PackFits.j0 k a5 (wrap64 ((wrap64 (a0)) - 1)) (wrap64 ((wrap64 (a1)) - 1)) (Int.tmod (wrap64 (a2)) 16) (Int.tmod (wrap64 (a3)) 16) (IntKind.u64.wrap (a4)) (t106 != (IntKind.u64.wrap (a4)))) else (coatchecklaw01_PackFits.j0 k a5 (wrap64 ((wrap64 (a0)) - 1)) (wrap64 ((wrap64 (a1)) - 1)) (Int.tmod (wrap64 (a2)) 16) (Int.tmod (wrap64 (a3)) 16) (IntKind.u64.wrap (a4)) true)) = some r := H
    have A10 := Aside0.mk A100
    clear A100
    have HC11 := Aside0.mk H
    clear H
    go_enter Try.func5, Try.ntmps5
    go_upto_region 7 with (first | ((with_reducible refine gate_callee (f := 6) rfl ?_); refine goesL_ (some 30) rfl rfl Try.func6 (by kernel_rfl) rfl #[] rfl (by (try simp only [List.map_toArray, List.map_cons, List.map_nil]); first | done | rfl | (simp only [List.length_drop, List.length_take]; rfl)) ?_; (with_reducible refine (coatchecklaw01_awake.calls  true _ A7.out).mono ?_); rintro e w' ⟨rfl, ⟨nd, rfl⟩⟩; refine ⟨_, rfl, ?_⟩) | ((with_reducible refine gate_callee (f := 7) rfl ?_); refine goesL_ (some 49) rfl rfl Try.func7 (by kernel_rfl) rfl #[.int .i64 (wrap64 ((wrap64 (a0)) - 1)), .int .u64 (IntKind.u64.wrap (a4))] rfl (by (try simp only [List.map_toArray, List.map_cons, List.map_nil]); first | done | rfl | (simp only [List.length_drop, List.length_take]; rfl)) ?_; (with_reducible refine (pack_Head.calls (wrap64 ((wrap64 (a0)) - 1)) (IntKind.u64.wrap (a4)) t104 _ A9.out).mono ?_); rintro e w' ⟨rfl, ⟨nd, rfl⟩⟩; refine ⟨_, rfl, ?_⟩) | ((with_reducible refine gate_callee (f := 17) rfl ?_); refine goesL_ (some 50) rfl rfl Try.func17 (by kernel_rfl) rfl #[.int .u64 t104] rfl (by (try simp only [List.map_toArray, List.map_cons, List.map_nil]); first | done | rfl | (simp only [List.length_drop, List.length_take]; rfl)) ?_; (with_reducible refine (pack_Unhead.calls t104 t105 t106 _ A10.out).mono ?_); rintro e w' ⟨rfl, ⟨nd, rfl⟩⟩; refine ⟨_, rfl, ?_⟩))
    (try simp only [Act.put, List.setIfInBounds_toArray, List.set_cons_zero, List.set_cons_succ])
    go_cut [60] (fun v60 wc => ∃ (kq : Nat) (x60_10 : Bool), v60 = .bool x60_10 ∧ Aside0 (coatchecklaw01_PackFits.j0 kq a5 (wrap64 ((wrap64 (a0)) - 1)) (wrap64 ((wrap64 (a1)) - 1)) (Int.tmod (wrap64 (a2)) 16) (Int.tmod (wrap64 (a3)) 16) (IntKind.u64.wrap (a4)) x60_10 = some r) ∧ Aside0 (kq ≤ k) ∧ Drawn0 w wc)
    case first =>
      have H := HC11.out
      clear HC11
      by_cases c12 : t105 = (wrap64 ((wrap64 (a0)) - 1))
      · rw [if_pos c12] at H
        have c12b0 : (t105 == (wrap64 ((wrap64 (a0)) - 1))) = true := beq_iff_eq.mpr c12
        have c12b1 : (t105 != (wrap64 ((wrap64 (a0)) - 1))) = false := bne_eq_false_iff_eq.mpr c12
        clear c12
        (first | rw [c12b0] | (simp only [i64_w, i32_w]; rw [c12b0]) | skip)
        have H' := Aside0.mk H
        clear H
        go_wp2
        go_meet
        case rel => exact ⟨_, ((t106 != (IntKind.u64.wrap (a4)))), (by first | rfl | (simp; done) | (simp [*]; done)), H', ⟨by first | omega | exact Nat.le_refl _⟩, by repeat (first | exact Drawn0.refl _ | apply Drawn0.step)⟩
      · rw [if_neg c12] at H
        have c12b0 : (t105 == (wrap64 ((wrap64 (a0)) - 1))) = false := beq_eq_false_iff_ne.mpr c12
        have c12b1 : (t105 != (wrap64 ((wrap64 (a0)) - 1))) = true := bne_iff_ne.mpr c12
        (first | rw [c12b0] | (simp only [i64_w, i32_w]; rw [c12b0]) | skip)
        have H' := Aside0.mk H
        clear H
        go_wp2
        go_meet
        case rel => exact ⟨_, (true), (by first | rfl | (simp; done) | (simp [*]; done)), H', ⟨by first | omega | exact Nat.le_refl _⟩, by repeat (first | exact Drawn0.refl _ | apply Drawn0.step)⟩
    case rest =>
      clear HC11
      try clear c1
      try clear p2
      try clear c5
      try clear c6
      try clear p6
      try clear c7
      try clear c8
      try clear c12
      try clear c12b0
      try clear c12b1
      obtain ⟨kq, x60_10, rfl, HA, HJ10, ⟨mc10, rfl⟩⟩ := hcut
      cases kq with
      | zero => exact absurd HA.out (by simp [coatchecklaw01_PackFits.j0])
      | succ kj10 =>
        have H := HA.out
        clear HA
        simp only [coatchecklaw01_PackFits.j0] at H
        by_cases c13 : x60_10 = true
        · subst c13
          have H1 : (some false) = some r := by rw [if_pos rfl] at H; exact H
          clear H
          have H := H1
          clear H1
          obtain rfl := Option.some.inj H
          go_wp2
          go_ret
          exact ⟨by first | rfl | (simp; done) | (simp [*]; done), by repeat (first | exact Drawn0.refl _ | apply Drawn0.step)⟩
        · replace c13 := Bool.eq_false_iff.mpr c13
          subst c13
          have H1 : ((pack_Entry.f (IntKind.u64.wrap (a4)) (wrap64 ((wrap64 (a1)) - 1)) (Int.tmod (wrap64 (a2)) 16)).bind fun t107 => ((pack_Unentry.f t107).bind fun bt108 => ((pack_Announce.f (IntKind.u64.wrap (a4)) a5).bind fun t111 => ((pack_Unannounce.f t111).bind fun bt112 => ((pack_Slab.f (Int.tmod (wrap64 (a2)) 16) (Int.tmod (wrap64 (a3)) 16) (IntKind.u64.wrap (a4))).bind fun t114 => ((pack_Unslab.f t114).bind fun bt115 => ((pack_Ticket.f (wrap64 ((wrap64 (a0)) - 1)) (IntKind.u64.wrap (a4))).bind fun t118 => ((pack_Unticket.f t118).bind fun bt119 => (if bt108.1 = (IntKind.u64.wrap (a4)) then (if bt108.2.1 = (wrap64 ((wrap64 (a1)) - 1)) then (if bt108.2.2 = (Int.tmod (wrap64 (a2)) 16) then (if bt112.1 = (IntKind.u64.wrap (a4)) then (if (bt112.2 == a5) = true then (if bt115.1 = (Int.tmod (wrap64 (a2)) 16) then (if bt115.2.1 = (Int.tmod (wrap64 (a3)) 16) then (if bt115.2.2 = (IntKind.u64.wrap (a4)) then (if bt119.1 = (wrap64 ((wrap64 (a0)) - 1)) then (some (bt119.2 == (IntKind.u64.wrap (a4)))) else (some false)) else (some false)) else (some false)) else (some false)) else (some false)) else (some false)) else (some false)) else (some false)) else (some false)))))))))) = some r := by rw [if_neg (show ¬ (false = true) by decide)] at H; exact H
          clear H
          have H := H1
          clear H1
          replace H := Option.bind_eq_some_iff.mp H
          obtain ⟨t107, A140, H⟩ := H
          replace H : ((pack_Unentry.f t107).bind fun bt108 => ((pack_Announce.f (IntKind.u64.wrap (a4)) a5).bind fun t111 => ((pack_Unannounce.f t111).bind fun bt112 => ((pack_Slab.f (Int.tmod (wrap64 (a2)) 16) (Int.tmod (wrap64 (a3)) 16) (IntKind.u64.wrap (a4))).bind fun t114 => ((pack_Unslab.f t114).bind fun bt115 => ((pack_Ticket.f (wrap64 ((wrap64 (a0)) - 1)) (IntKind.u64.wrap (a4))).bind fun t118 => ((pack_Unticket.f t118).bind fun bt119 => (if bt108.1 = (IntKind.u64.wrap (a4)) then (if bt108.2.1 = (wrap64 ((wrap64 (a1)) - 1)) then (if bt108.2.2 = (Int.tmod (wrap64 (a2)) 16) then (if bt112.1 = (IntKind.u64.wrap (a4)) then (if (bt112.2 == a5) = true then (if bt115.1 = (Int.tmod (wrap64 (a2)) 16) then (if bt115.2.1 = (Int.tmod (wrap64 (a3)) 16) then (if bt115.2.2 = (IntKind.u64.wrap (a4)) then (if bt119.1 = (wrap64 ((wrap64 (a0)) - 1)) then (some (bt119.2 == (IntKind.u64.wrap (a4)))) else (some false)) else (some false)) else (some false)) else (some false)) else (some false)) else (some false)) else (some false)) else (some false)) else (some false))))))))) = some r := H
          have A14 := Aside0.mk A140
          clear A140
          replace H := Option.bind_eq_some_iff.mp H
          obtain ⟨⟨t108, t109, t110⟩, A150, H⟩ := H
          replace H : ((pack_Announce.f (IntKind.u64.wrap (a4)) a5).bind fun t111 => ((pack_Unannounce.f t111).bind fun bt112 => ((pack_Slab.f (Int.tmod (wrap64 (a2)) 16) (Int.tmod (wrap64 (a3)) 16) (IntKind.u64.wrap (a4))).bind fun t114 => ((pack_Unslab.f t114).bind fun bt115 => ((pack_Ticket.f (wrap64 ((wrap64 (a0)) - 1)) (IntKind.u64.wrap (a4))).bind fun t118 => ((pack_Unticket.f t118).bind fun bt119 => (if t108 = (IntKind.u64.wrap (a4)) then (if t109 = (wrap64 ((wrap64 (a1)) - 1)) then (if t110 = (Int.tmod (wrap64 (a2)) 16) then (if bt112.1 = (IntKind.u64.wrap (a4)) then (if (bt112.2 == a5) = true then (if bt115.1 = (Int.tmod (wrap64 (a2)) 16) then (if bt115.2.1 = (Int.tmod (wrap64 (a3)) 16) then (if bt115.2.2 = (IntKind.u64.wrap (a4)) then (if bt119.1 = (wrap64 ((wrap64 (a0)) - 1)) then (some (bt119.2 == (IntKind.u64.wrap (a4)))) else (some false)) else (some false)) else (some false)) else (some false)) else (some false)) else (some false)) else (some false)) else (some false)) else (some false)))))))) = some r := H
          have A15 := Aside0.mk A150
          clear A150
          replace H := Option.bind_eq_some_iff.mp H
          obtain ⟨t111, A160, H⟩ := H
          replace H : ((pack_Unannounce.f t111).bind fun bt112 => ((pack_Slab.f (Int.tmod (wrap64 (a2)) 16) (Int.tmod (wrap64 (a3)) 16) (IntKind.u64.wrap (a4))).bind fun t114 => ((pack_Unslab.f t114).bind fun bt115 => ((pack_Ticket.f (wrap64 ((wrap64 (a0)) - 1)) (IntKind.u64.wrap (a4))).bind fun t118 => ((pack_Unticket.f t118).bind fun bt119 => (if t108 = (IntKind.u64.wrap (a4)) then (if t109 = (wrap64 ((wrap64 (a1)) - 1)) then (if t110 = (Int.tmod (wrap64 (a2)) 16) then (if bt112.1 = (IntKind.u64.wrap (a4)) then (if (bt112.2 == a5) = true then (if bt115.1 = (Int.tmod (wrap64 (a2)) 16) then (if bt115.2.1 = (Int.tmod (wrap64 (a3)) 16) then (if bt115.2.2 = (IntKind.u64.wrap (a4)) then (if bt119.1 = (wrap64 ((wrap64 (a0)) - 1)) then (some (bt119.2 == (IntKind.u64.wrap (a4)))) else (some false)) else (some false)) else (some false)) else (some false)) else (some false)) else (some false)) else (some false)) else (some false)) else (some false))))))) = some r := H
          have A16 := Aside0.mk A160
          clear A160
          replace H := Option.bind_eq_some_iff.mp H
          obtain ⟨⟨t112, t113⟩, A170, H⟩ := H
          replace H : ((pack_Slab.f (Int.tmod (wrap64 (a2)) 16) (Int.tmod (wrap64 (a3)) 16) (IntKind.u64.wrap (a4))).bind fun t114 => ((pack_Unslab.f t114).bind fun bt115 => ((pack_Ticket.f (wrap64 ((wrap64 (a0)) - 1)) (IntKind.u64.wrap (a4))).bind fun t118 => ((pack_Unticket.f t118).bind fun bt119 => (if t108 = (IntKind.u64.wrap (a4)) then (if t109 = (wrap64 ((wrap64 (a1)) - 1)) then (if t110 = (Int.tmod (wrap64 (a2)) 16) then (if t112 = (IntKind.u64.wrap (a4)) then (if (t113 == a5) = true then (if bt115.1 = (Int.tmod (wrap64 (a2)) 16) then (if bt115.2.1 = (Int.tmod (wrap64 (a3)) 16) then (if bt115.2.2 = (IntKind.u64.wrap (a4)) then (if bt119.1 = (wrap64 ((wrap64 (a0)) - 1)) then (some (bt119.2 == (IntKind.u64.wrap (a4)))) else (some false)) else (some false)) else (some false)) else (some false)) else (some false)) else (some false)) else (some false)) else (some false)) else (some false)))))) = some r := H
          have A17 := Aside0.mk A170
          clear A170
          replace H := Option.bind_eq_some_iff.mp H
          obtain ⟨t114, A180, H⟩ := H
          replace H : ((pack_Unslab.f t114).bind fun bt115 => ((pack_Ticket.f (wrap64 ((wrap64 (a0)) - 1)) (IntKind.u64.wrap (a4))).bind fun t118 => ((pack_Unticket.f t118).bind fun bt119 => (if t108 = (IntKind.u64.wrap (a4)) then (if t109 = (wrap64 ((wrap64 (a1)) - 1)) then (if t110 = (Int.tmod (wrap64 (a2)) 16) then (if t112 = (IntKind.u64.wrap (a4)) then (if (t113 == a5) = true then (if bt115.1 = (Int.tmod (wrap64 (a2)) 16) then (if bt115.2.1 = (Int.tmod (wrap64 (a3)) 16) then (if bt115.2.2 = (IntKind.u64.wrap (a4)) then (if bt119.1 = (wrap64 ((wrap64 (a0)) - 1)) then (some (bt119.2 == (IntKind.u64.wrap (a4)))) else (some false)) else (some false)) else (some false)) else (some false)) else (some false)) else (some false)) else (some false)) else (some false)) else (some false))))) = some r := H
          have A18 := Aside0.mk A180
          clear A180
          replace H := Option.bind_eq_some_iff.mp H
          obtain ⟨⟨t115, t116, t117⟩, A190, H⟩ := H
          replace H : ((pack_Ticket.f (wrap64 ((wrap64 (a0)) - 1)) (IntKind.u64.wrap (a4))).bind fun t118 => ((pack_Unticket.f t118).bind fun bt119 => (if t108 = (IntKind.u64.wrap (a4)) then (if t109 = (wrap64 ((wrap64 (a1)) - 1)) then (if t110 = (Int.tmod (wrap64 (a2)) 16) then (if t112 = (IntKind.u64.wrap (a4)) then (if (t113 == a5) = true then (if t115 = (Int.tmod (wrap64 (a2)) 16) then (if t116 = (Int.tmod (wrap64 (a3)) 16) then (if t117 = (IntKind.u64.wrap (a4)) then (if bt119.1 = (wrap64 ((wrap64 (a0)) - 1)) then (some (bt119.2 == (IntKind.u64.wrap (a4)))) else (some false)) else (some false)) else (some false)) else (some false)) else (some false)) else (some false)) else (some false)) else (some false)) else (some false)))) = some r := H
          have A19 := Aside0.mk A190
          clear A190
          replace H := Option.bind_eq_some_iff.mp H
          obtain ⟨t118, A200, H⟩ := H
          replace H : ((pack_Unticket.f t118).bind fun bt119 => (if t108 = (IntKind.u64.wrap (a4)) then (if t109 = (wrap64 ((wrap64 (a1)) - 1)) then (if t110 = (Int.tmod (wrap64 (a2)) 16) then (if t112 = (IntKind.u64.wrap (a4)) then (if (t113 == a5) = true then (if t115 = (Int.tmod (wrap64 (a2)) 16) then (if t116 = (Int.tmod (wrap64 (a3)) 16) then (if t117 = (IntKind.u64.wrap (a4)) then (if bt119.1 = (wrap64 ((wrap64 (a0)) - 1)) then (some (bt119.2 == (IntKind.u64.wrap (a4)))) else (some false)) else (some false)) else (some false)) else (some false)) else (some false)) else (some false)) else (some false)) else (some false)) else (some false))) = some r := H
          have A20 := Aside0.mk A200
          clear A200
          replace H := Option.bind_eq_some_iff.mp H
          obtain ⟨⟨t119, t120⟩, A210, H⟩ := H
          replace H : (if t108 = (IntKind.u64.wrap (a4)) then (if t109 = (wrap64 ((wrap64 (a1)) - 1)) then (if t110 = (Int.tmod (wrap64 (a2)) 16) then (if t112 = (IntKind.u64.wrap (a4)) then (if (t113 == a5) = true then (if t115 = (Int.tmod (wrap64 (a2)) 16) then (if t116 = (Int.tmod (wrap64 (a3)) 16) then (if t117 = (IntKind.u64.wrap (a4)) then (if t119 = (wrap64 ((wrap64 (a0)) - 1)) then (some (t120 == (IntKind.u64.wrap (a4)))) else (some false)) else (some false)) else (some false)) else (some false)) else (some false)) else (some false)) else (some false)) else (some false)) else (some false)) = some r := H
          have A21 := Aside0.mk A210
          clear A210
          by_cases c22 : t108 = (IntKind.u64.wrap (a4))
          · rw [if_pos c22] at H
            have c22b0 : (t108 == (IntKind.u64.wrap (a4))) = true := beq_iff_eq.mpr c22
            have c22b1 : (t108 != (IntKind.u64.wrap (a4))) = false := bne_eq_false_iff_eq.mpr c22
            clear c22
            by_cases c23 : t109 = (wrap64 ((wrap64 (a1)) - 1))
            · rw [if_pos c23] at H
              have c23b0 : (t109 == (wrap64 ((wrap64 (a1)) - 1))) = true := beq_iff_eq.mpr c23
              have c23b1 : (t109 != (wrap64 ((wrap64 (a1)) - 1))) = false := bne_eq_false_iff_eq.mpr c23
              clear c23
              by_cases c24 : t110 = (Int.tmod (wrap64 (a2)) 16)
              · rw [if_pos c24] at H
                have c24b0 : (t110 == (Int.tmod (wrap64 (a2)) 16)) = true := beq_iff_eq.mpr c24
                have c24b1 : (t110 != (Int.tmod (wrap64 (a2)) 16)) = false := bne_eq_false_iff_eq.mpr c24
                clear c24
                by_cases c25 : t112 = (IntKind.u64.wrap (a4))
                · rw [if_pos c25] at H
                  have c25b0 : (t112 == (IntKind.u64.wrap (a4))) = true := beq_iff_eq.mpr c25
                  have c25b1 : (t112 != (IntKind.u64.wrap (a4))) = false := bne_eq_false_iff_eq.mpr c25
                  clear c25
                  by_cases c26 : (t113 == a5) = true
                  · rw [if_pos c26] at H
                    have c26b0 : (t113 == a5) = true := c26
                    (try (have c26b1 : decide (t113 = a5) = true := by simpa using c26))
                    (try (have c26b2 : (t113 == a5) = true := by simpa using c26))
                    clear c26
                    by_cases c27 : t115 = (Int.tmod (wrap64 (a2)) 16)
                    · rw [if_pos c27] at H
                      have c27b0 : (t115 == (Int.tmod (wrap64 (a2)) 16)) = true := beq_iff_eq.mpr c27
                      have c27b1 : (t115 != (Int.tmod (wrap64 (a2)) 16)) = false := bne_eq_false_iff_eq.mpr c27
                      clear c27
                      by_cases c28 : t116 = (Int.tmod (wrap64 (a3)) 16)
                      · rw [if_pos c28] at H
                        have c28b0 : (t116 == (Int.tmod (wrap64 (a3)) 16)) = true := beq_iff_eq.mpr c28
                        have c28b1 : (t116 != (Int.tmod (wrap64 (a3)) 16)) = false := bne_eq_false_iff_eq.mpr c28
                        clear c28
                        by_cases c29 : t117 = (IntKind.u64.wrap (a4))
                        · rw [if_pos c29] at H
                          have c29b0 : (t117 == (IntKind.u64.wrap (a4))) = true := beq_iff_eq.mpr c29
                          have c29b1 : (t117 != (IntKind.u64.wrap (a4))) = false := bne_eq_false_iff_eq.mpr c29
                          clear c29
                          by_cases c30 : t119 = (wrap64 ((wrap64 (a0)) - 1))
                          · rw [if_pos c30] at H
                            have c30b0 : (t119 == (wrap64 ((wrap64 (a0)) - 1))) = true := beq_iff_eq.mpr c30
                            have c30b1 : (t119 != (wrap64 ((wrap64 (a0)) - 1))) = false := bne_eq_false_iff_eq.mpr c30
                            clear c30
                            obtain rfl := Option.some.inj H
                            go_wp2_with (first | ((with_reducible refine gate_callee (f := 9) rfl ?_); refine goesL_ (some 65) rfl rfl Try.func9 (by kernel_rfl) rfl #[.int .u64 (IntKind.u64.wrap (a4)), .int .i64 (wrap64 ((wrap64 (a1)) - 1)), .int .i64 (Int.tmod (wrap64 (a2)) 16)] rfl (by (try simp only [List.map_toArray, List.map_cons, List.map_nil]); first | done | rfl | (simp only [List.length_drop, List.length_take]; rfl)) ?_; (with_reducible refine (pack_Entry.calls (IntKind.u64.wrap (a4)) (wrap64 ((wrap64 (a1)) - 1)) (Int.tmod (wrap64 (a2)) 16) t107 _ A14.out).mono ?_); rintro e w' ⟨rfl, ⟨nd, rfl⟩⟩; refine ⟨_, rfl, ?_⟩) | ((with_reducible refine gate_callee (f := 19) rfl ?_); refine goesL_ (some 66) rfl rfl Try.func19 (by kernel_rfl) rfl #[.int .u64 t107] rfl (by (try simp only [List.map_toArray, List.map_cons, List.map_nil]); first | done | rfl | (simp only [List.length_drop, List.length_take]; rfl)) ?_; (with_reducible refine (pack_Unentry.calls t107 t108 t109 t110 _ A15.out).mono ?_); rintro e w' ⟨rfl, ⟨nd, rfl⟩⟩; refine ⟨_, rfl, ?_⟩) | ((with_reducible refine gate_callee (f := 11) rfl ?_); refine goesL_ (some 73) rfl rfl Try.func11 (by kernel_rfl) rfl #[.int .u64 (IntKind.u64.wrap (a4)), .bool a5] rfl (by (try simp only [List.map_toArray, List.map_cons, List.map_nil]); first | done | rfl | (simp only [List.length_drop, List.length_take]; rfl)) ?_; (with_reducible refine (pack_Announce.calls (IntKind.u64.wrap (a4)) a5 t111 _ A16.out).mono ?_); rintro e w' ⟨rfl, ⟨nd, rfl⟩⟩; refine ⟨_, rfl, ?_⟩) | ((with_reducible refine gate_callee (f := 21) rfl ?_); refine goesL_ (some 74) rfl rfl Try.func21 (by kernel_rfl) rfl #[.int .u64 t111] rfl (by (try simp only [List.map_toArray, List.map_cons, List.map_nil]); first | done | rfl | (simp only [List.length_drop, List.length_take]; rfl)) ?_; (with_reducible refine (pack_Unannounce.calls t111 t112 t113 _ A17.out).mono ?_); rintro e w' ⟨rfl, ⟨nd, rfl⟩⟩; refine ⟨_, rfl, ?_⟩) | ((with_reducible refine gate_callee (f := 13) rfl ?_); refine goesL_ (some 81) rfl rfl Try.func13 (by kernel_rfl) rfl #[.int .i64 (Int.tmod (wrap64 (a2)) 16), .int .i64 (Int.tmod (wrap64 (a3)) 16), .int .u64 (IntKind.u64.wrap (a4))] rfl (by (try simp only [List.map_toArray, List.map_cons, List.map_nil]); first | done | rfl | (simp only [List.length_drop, List.length_take]; rfl)) ?_; (with_reducible refine (pack_Slab.calls (Int.tmod (wrap64 (a2)) 16) (Int.tmod (wrap64 (a3)) 16) (IntKind.u64.wrap (a4)) t114 _ A18.out).mono ?_); rintro e w' ⟨rfl, ⟨nd, rfl⟩⟩; refine ⟨_, rfl, ?_⟩) | ((with_reducible refine gate_callee (f := 22) rfl ?_); refine goesL_ (some 82) rfl rfl Try.func22 (by kernel_rfl) rfl #[.int .u64 t114] rfl (by (try simp only [List.map_toArray, List.map_cons, List.map_nil]); first | done | rfl | (simp only [List.length_drop, List.length_take]; rfl)) ?_; (with_reducible refine (pack_Unslab.calls t114 t115 t116 t117 _ A19.out).mono ?_); rintro e w' ⟨rfl, ⟨nd, rfl⟩⟩; refine ⟨_, rfl, ?_⟩) | ((with_reducible refine gate_callee (f := 15) rfl ?_); refine goesL_ (some 89) rfl rfl Try.func15 (by kernel_rfl) rfl #[.int .i64 (wrap64 ((wrap64 (a0)) - 1)), .int .u64 (IntKind.u64.wrap (a4))] rfl (by (try simp only [List.map_toArray, List.map_cons, List.map_nil]); first | done | rfl | (simp only [List.length_drop, List.length_take]; rfl)) ?_; (with_reducible refine (pack_Ticket.calls (wrap64 ((wrap64 (a0)) - 1)) (IntKind.u64.wrap (a4)) t118 _ A20.out).mono ?_); rintro e w' ⟨rfl, ⟨nd, rfl⟩⟩; refine ⟨_, rfl, ?_⟩) | ((with_reducible refine gate_callee (f := 24) rfl ?_); refine goesL_ (some 90) rfl rfl Try.func24 (by kernel_rfl) rfl #[.int .u64 t118] rfl (by (try simp only [List.map_toArray, List.map_cons, List.map_nil]); first | done | rfl | (simp only [List.length_drop, List.length_take]; rfl)) ?_; (with_reducible refine (pack_Unticket.calls t118 t119 t120 _ A21.out).mono ?_); rintro e w' ⟨rfl, ⟨nd, rfl⟩⟩; refine ⟨_, rfl, ?_⟩))
                            go_ret
                            exact ⟨by first | rfl | (simp; done) | (simp [*]; done), by repeat (first | exact Drawn0.refl _ | apply Drawn0.step)⟩
                          · rw [if_neg c30] at H
                            have c30b0 : (t119 == (wrap64 ((wrap64 (a0)) - 1))) = false := beq_eq_false_iff_ne.mpr c30
                            have c30b1 : (t119 != (wrap64 ((wrap64 (a0)) - 1))) = true := bne_iff_ne.mpr c30
                            obtain rfl := Option.some.inj H
                            go_wp2_with (first | ((with_reducible refine gate_callee (f := 9) rfl ?_); refine goesL_ (some 65) rfl rfl Try.func9 (by kernel_rfl) rfl #[.int .u64 (IntKind.u64.wrap (a4)), .int .i64 (wrap64 ((wrap64 (a1)) - 1)), .int .i64 (Int.tmod (wrap64 (a2)) 16)] rfl (by (try simp only [List.map_toArray, List.map_cons, List.map_nil]); first | done | rfl | (simp only [List.length_drop, List.length_take]; rfl)) ?_; (with_reducible refine (pack_Entry.calls (IntKind.u64.wrap (a4)) (wrap64 ((wrap64 (a1)) - 1)) (Int.tmod (wrap64 (a2)) 16) t107 _ A14.out).mono ?_); rintro e w' ⟨rfl, ⟨nd, rfl⟩⟩; refine ⟨_, rfl, ?_⟩) | ((with_reducible refine gate_callee (f := 19) rfl ?_); refine goesL_ (some 66) rfl rfl Try.func19 (by kernel_rfl) rfl #[.int .u64 t107] rfl (by (try simp only [List.map_toArray, List.map_cons, List.map_nil]); first | done | rfl | (simp only [List.length_drop, List.length_take]; rfl)) ?_; (with_reducible refine (pack_Unentry.calls t107 t108 t109 t110 _ A15.out).mono ?_); rintro e w' ⟨rfl, ⟨nd, rfl⟩⟩; refine ⟨_, rfl, ?_⟩) | ((with_reducible refine gate_callee (f := 11) rfl ?_); refine goesL_ (some 73) rfl rfl Try.func11 (by kernel_rfl) rfl #[.int .u64 (IntKind.u64.wrap (a4)), .bool a5] rfl (by (try simp only [List.map_toArray, List.map_cons, List.map_nil]); first | done | rfl | (simp only [List.length_drop, List.length_take]; rfl)) ?_; (with_reducible refine (pack_Announce.calls (IntKind.u64.wrap (a4)) a5 t111 _ A16.out).mono ?_); rintro e w' ⟨rfl, ⟨nd, rfl⟩⟩; refine ⟨_, rfl, ?_⟩) | ((with_reducible refine gate_callee (f := 21) rfl ?_); refine goesL_ (some 74) rfl rfl Try.func21 (by kernel_rfl) rfl #[.int .u64 t111] rfl (by (try simp only [List.map_toArray, List.map_cons, List.map_nil]); first | done | rfl | (simp only [List.length_drop, List.length_take]; rfl)) ?_; (with_reducible refine (pack_Unannounce.calls t111 t112 t113 _ A17.out).mono ?_); rintro e w' ⟨rfl, ⟨nd, rfl⟩⟩; refine ⟨_, rfl, ?_⟩) | ((with_reducible refine gate_callee (f := 13) rfl ?_); refine goesL_ (some 81) rfl rfl Try.func13 (by kernel_rfl) rfl #[.int .i64 (Int.tmod (wrap64 (a2)) 16), .int .i64 (Int.tmod (wrap64 (a3)) 16), .int .u64 (IntKind.u64.wrap (a4))] rfl (by (try simp only [List.map_toArray, List.map_cons, List.map_nil]); first | done | rfl | (simp only [List.length_drop, List.length_take]; rfl)) ?_; (with_reducible refine (pack_Slab.calls (Int.tmod (wrap64 (a2)) 16) (Int.tmod (wrap64 (a3)) 16) (IntKind.u64.wrap (a4)) t114 _ A18.out).mono ?_); rintro e w' ⟨rfl, ⟨nd, rfl⟩⟩; refine ⟨_, rfl, ?_⟩) | ((with_reducible refine gate_callee (f := 22) rfl ?_); refine goesL_ (some 82) rfl rfl Try.func22 (by kernel_rfl) rfl #[.int .u64 t114] rfl (by (try simp only [List.map_toArray, List.map_cons, List.map_nil]); first | done | rfl | (simp only [List.length_drop, List.length_take]; rfl)) ?_; (with_reducible refine (pack_Unslab.calls t114 t115 t116 t117 _ A19.out).mono ?_); rintro e w' ⟨rfl, ⟨nd, rfl⟩⟩; refine ⟨_, rfl, ?_⟩) | ((with_reducible refine gate_callee (f := 15) rfl ?_); refine goesL_ (some 89) rfl rfl Try.func15 (by kernel_rfl) rfl #[.int .i64 (wrap64 ((wrap64 (a0)) - 1)), .int .u64 (IntKind.u64.wrap (a4))] rfl (by (try simp only [List.map_toArray, List.map_cons, List.map_nil]); first | done | rfl | (simp only [List.length_drop, List.length_take]; rfl)) ?_; (with_reducible refine (pack_Ticket.calls (wrap64 ((wrap64 (a0)) - 1)) (IntKind.u64.wrap (a4)) t118 _ A20.out).mono ?_); rintro e w' ⟨rfl, ⟨nd, rfl⟩⟩; refine ⟨_, rfl, ?_⟩) | ((with_reducible refine gate_callee (f := 24) rfl ?_); refine goesL_ (some 90) rfl rfl Try.func24 (by kernel_rfl) rfl #[.int .u64 t118] rfl (by (try simp only [List.map_toArray, List.map_cons, List.map_nil]); first | done | rfl | (simp only [List.length_drop, List.length_take]; rfl)) ?_; (with_reducible refine (pack_Unticket.calls t118 t119 t120 _ A21.out).mono ?_); rintro e w' ⟨rfl, ⟨nd, rfl⟩⟩; refine ⟨_, rfl, ?_⟩))
                            go_ret
                            exact ⟨by first | rfl | (simp; done) | (simp [*]; done), by repeat (first | exact Drawn0.refl _ | apply Drawn0.step)⟩
                        · rw [if_neg c29] at H
                          have c29b0 : (t117 == (IntKind.u64.wrap (a4))) = false := beq_eq_false_iff_ne.mpr c29
                          have c29b1 : (t117 != (IntKind.u64.wrap (a4))) = true := bne_iff_ne.mpr c29
                          obtain rfl := Option.some.inj H
                          go_wp2_with (first | ((with_reducible refine gate_callee (f := 9) rfl ?_); refine goesL_ (some 65) rfl rfl Try.func9 (by kernel_rfl) rfl #[.int .u64 (IntKind.u64.wrap (a4)), .int .i64 (wrap64 ((wrap64 (a1)) - 1)), .int .i64 (Int.tmod (wrap64 (a2)) 16)] rfl (by (try simp only [List.map_toArray, List.map_cons, List.map_nil]); first | done | rfl | (simp only [List.length_drop, List.length_take]; rfl)) ?_; (with_reducible refine (pack_Entry.calls (IntKind.u64.wrap (a4)) (wrap64 ((wrap64 (a1)) - 1)) (Int.tmod (wrap64 (a2)) 16) t107 _ A14.out).mono ?_); rintro e w' ⟨rfl, ⟨nd, rfl⟩⟩; refine ⟨_, rfl, ?_⟩) | ((with_reducible refine gate_callee (f := 19) rfl ?_); refine goesL_ (some 66) rfl rfl Try.func19 (by kernel_rfl) rfl #[.int .u64 t107] rfl (by (try simp only [List.map_toArray, List.map_cons, List.map_nil]); first | done | rfl | (simp only [List.length_drop, List.length_take]; rfl)) ?_; (with_reducible refine (pack_Unentry.calls t107 t108 t109 t110 _ A15.out).mono ?_); rintro e w' ⟨rfl, ⟨nd, rfl⟩⟩; refine ⟨_, rfl, ?_⟩) | ((with_reducible refine gate_callee (f := 11) rfl ?_); refine goesL_ (some 73) rfl rfl Try.func11 (by kernel_rfl) rfl #[.int .u64 (IntKind.u64.wrap (a4)), .bool a5] rfl (by (try simp only [List.map_toArray, List.map_cons, List.map_nil]); first | done | rfl | (simp only [List.length_drop, List.length_take]; rfl)) ?_; (with_reducible refine (pack_Announce.calls (IntKind.u64.wrap (a4)) a5 t111 _ A16.out).mono ?_); rintro e w' ⟨rfl, ⟨nd, rfl⟩⟩; refine ⟨_, rfl, ?_⟩) | ((with_reducible refine gate_callee (f := 21) rfl ?_); refine goesL_ (some 74) rfl rfl Try.func21 (by kernel_rfl) rfl #[.int .u64 t111] rfl (by (try simp only [List.map_toArray, List.map_cons, List.map_nil]); first | done | rfl | (simp only [List.length_drop, List.length_take]; rfl)) ?_; (with_reducible refine (pack_Unannounce.calls t111 t112 t113 _ A17.out).mono ?_); rintro e w' ⟨rfl, ⟨nd, rfl⟩⟩; refine ⟨_, rfl, ?_⟩) | ((with_reducible refine gate_callee (f := 13) rfl ?_); refine goesL_ (some 81) rfl rfl Try.func13 (by kernel_rfl) rfl #[.int .i64 (Int.tmod (wrap64 (a2)) 16), .int .i64 (Int.tmod (wrap64 (a3)) 16), .int .u64 (IntKind.u64.wrap (a4))] rfl (by (try simp only [List.map_toArray, List.map_cons, List.map_nil]); first | done | rfl | (simp only [List.length_drop, List.length_take]; rfl)) ?_; (with_reducible refine (pack_Slab.calls (Int.tmod (wrap64 (a2)) 16) (Int.tmod (wrap64 (a3)) 16) (IntKind.u64.wrap (a4)) t114 _ A18.out).mono ?_); rintro e w' ⟨rfl, ⟨nd, rfl⟩⟩; refine ⟨_, rfl, ?_⟩) | ((with_reducible refine gate_callee (f := 22) rfl ?_); refine goesL_ (some 82) rfl rfl Try.func22 (by kernel_rfl) rfl #[.int .u64 t114] rfl (by (try simp only [List.map_toArray, List.map_cons, List.map_nil]); first | done | rfl | (simp only [List.length_drop, List.length_take]; rfl)) ?_; (with_reducible refine (pack_Unslab.calls t114 t115 t116 t117 _ A19.out).mono ?_); rintro e w' ⟨rfl, ⟨nd, rfl⟩⟩; refine ⟨_, rfl, ?_⟩) | ((with_reducible refine gate_callee (f := 15) rfl ?_); refine goesL_ (some 89) rfl rfl Try.func15 (by kernel_rfl) rfl #[.int .i64 (wrap64 ((wrap64 (a0)) - 1)), .int .u64 (IntKind.u64.wrap (a4))] rfl (by (try simp only [List.map_toArray, List.map_cons, List.map_nil]); first | done | rfl | (simp only [List.length_drop, List.length_take]; rfl)) ?_; (with_reducible refine (pack_Ticket.calls (wrap64 ((wrap64 (a0)) - 1)) (IntKind.u64.wrap (a4)) t118 _ A20.out).mono ?_); rintro e w' ⟨rfl, ⟨nd, rfl⟩⟩; refine ⟨_, rfl, ?_⟩) | ((with_reducible refine gate_callee (f := 24) rfl ?_); refine goesL_ (some 90) rfl rfl Try.func24 (by kernel_rfl) rfl #[.int .u64 t118] rfl (by (try simp only [List.map_toArray, List.map_cons, List.map_nil]); first | done | rfl | (simp only [List.length_drop, List.length_take]; rfl)) ?_; (with_reducible refine (pack_Unticket.calls t118 t119 t120 _ A21.out).mono ?_); rintro e w' ⟨rfl, ⟨nd, rfl⟩⟩; refine ⟨_, rfl, ?_⟩))
                          go_ret
                          exact ⟨by first | rfl | (simp; done) | (simp [*]; done), by repeat (first | exact Drawn0.refl _ | apply Drawn0.step)⟩
                      · rw [if_neg c28] at H
                        have c28b0 : (t116 == (Int.tmod (wrap64 (a3)) 16)) = false := beq_eq_false_iff_ne.mpr c28
                        have c28b1 : (t116 != (Int.tmod (wrap64 (a3)) 16)) = true := bne_iff_ne.mpr c28
                        obtain rfl := Option.some.inj H
                        go_wp2_with (first | ((with_reducible refine gate_callee (f := 9) rfl ?_); refine goesL_ (some 65) rfl rfl Try.func9 (by kernel_rfl) rfl #[.int .u64 (IntKind.u64.wrap (a4)), .int .i64 (wrap64 ((wrap64 (a1)) - 1)), .int .i64 (Int.tmod (wrap64 (a2)) 16)] rfl (by (try simp only [List.map_toArray, List.map_cons, List.map_nil]); first | done | rfl | (simp only [List.length_drop, List.length_take]; rfl)) ?_; (with_reducible refine (pack_Entry.calls (IntKind.u64.wrap (a4)) (wrap64 ((wrap64 (a1)) - 1)) (Int.tmod (wrap64 (a2)) 16) t107 _ A14.out).mono ?_); rintro e w' ⟨rfl, ⟨nd, rfl⟩⟩; refine ⟨_, rfl, ?_⟩) | ((with_reducible refine gate_callee (f := 19) rfl ?_); refine goesL_ (some 66) rfl rfl Try.func19 (by kernel_rfl) rfl #[.int .u64 t107] rfl (by (try simp only [List.map_toArray, List.map_cons, List.map_nil]); first | done | rfl | (simp only [List.length_drop, List.length_take]; rfl)) ?_; (with_reducible refine (pack_Unentry.calls t107 t108 t109 t110 _ A15.out).mono ?_); rintro e w' ⟨rfl, ⟨nd, rfl⟩⟩; refine ⟨_, rfl, ?_⟩) | ((with_reducible refine gate_callee (f := 11) rfl ?_); refine goesL_ (some 73) rfl rfl Try.func11 (by kernel_rfl) rfl #[.int .u64 (IntKind.u64.wrap (a4)), .bool a5] rfl (by (try simp only [List.map_toArray, List.map_cons, List.map_nil]); first | done | rfl | (simp only [List.length_drop, List.length_take]; rfl)) ?_; (with_reducible refine (pack_Announce.calls (IntKind.u64.wrap (a4)) a5 t111 _ A16.out).mono ?_); rintro e w' ⟨rfl, ⟨nd, rfl⟩⟩; refine ⟨_, rfl, ?_⟩) | ((with_reducible refine gate_callee (f := 21) rfl ?_); refine goesL_ (some 74) rfl rfl Try.func21 (by kernel_rfl) rfl #[.int .u64 t111] rfl (by (try simp only [List.map_toArray, List.map_cons, List.map_nil]); first | done | rfl | (simp only [List.length_drop, List.length_take]; rfl)) ?_; (with_reducible refine (pack_Unannounce.calls t111 t112 t113 _ A17.out).mono ?_); rintro e w' ⟨rfl, ⟨nd, rfl⟩⟩; refine ⟨_, rfl, ?_⟩) | ((with_reducible refine gate_callee (f := 13) rfl ?_); refine goesL_ (some 81) rfl rfl Try.func13 (by kernel_rfl) rfl #[.int .i64 (Int.tmod (wrap64 (a2)) 16), .int .i64 (Int.tmod (wrap64 (a3)) 16), .int .u64 (IntKind.u64.wrap (a4))] rfl (by (try simp only [List.map_toArray, List.map_cons, List.map_nil]); first | done | rfl | (simp only [List.length_drop, List.length_take]; rfl)) ?_; (with_reducible refine (pack_Slab.calls (Int.tmod (wrap64 (a2)) 16) (Int.tmod (wrap64 (a3)) 16) (IntKind.u64.wrap (a4)) t114 _ A18.out).mono ?_); rintro e w' ⟨rfl, ⟨nd, rfl⟩⟩; refine ⟨_, rfl, ?_⟩) | ((with_reducible refine gate_callee (f := 22) rfl ?_); refine goesL_ (some 82) rfl rfl Try.func22 (by kernel_rfl) rfl #[.int .u64 t114] rfl (by (try simp only [List.map_toArray, List.map_cons, List.map_nil]); first | done | rfl | (simp only [List.length_drop, List.length_take]; rfl)) ?_; (with_reducible refine (pack_Unslab.calls t114 t115 t116 t117 _ A19.out).mono ?_); rintro e w' ⟨rfl, ⟨nd, rfl⟩⟩; refine ⟨_, rfl, ?_⟩) | ((with_reducible refine gate_callee (f := 15) rfl ?_); refine goesL_ (some 89) rfl rfl Try.func15 (by kernel_rfl) rfl #[.int .i64 (wrap64 ((wrap64 (a0)) - 1)), .int .u64 (IntKind.u64.wrap (a4))] rfl (by (try simp only [List.map_toArray, List.map_cons, List.map_nil]); first | done | rfl | (simp only [List.length_drop, List.length_take]; rfl)) ?_; (with_reducible refine (pack_Ticket.calls (wrap64 ((wrap64 (a0)) - 1)) (IntKind.u64.wrap (a4)) t118 _ A20.out).mono ?_); rintro e w' ⟨rfl, ⟨nd, rfl⟩⟩; refine ⟨_, rfl, ?_⟩) | ((with_reducible refine gate_callee (f := 24) rfl ?_); refine goesL_ (some 90) rfl rfl Try.func24 (by kernel_rfl) rfl #[.int .u64 t118] rfl (by (try simp only [List.map_toArray, List.map_cons, List.map_nil]); first | done | rfl | (simp only [List.length_drop, List.length_take]; rfl)) ?_; (with_reducible refine (pack_Unticket.calls t118 t119 t120 _ A21.out).mono ?_); rintro e w' ⟨rfl, ⟨nd, rfl⟩⟩; refine ⟨_, rfl, ?_⟩))
                        go_ret
                        exact ⟨by first | rfl | (simp; done) | (simp [*]; done), by repeat (first | exact Drawn0.refl _ | apply Drawn0.step)⟩
                    · rw [if_neg c27] at H
                      have c27b0 : (t115 == (Int.tmod (wrap64 (a2)) 16)) = false := beq_eq_false_iff_ne.mpr c27
                      have c27b1 : (t115 != (Int.tmod (wrap64 (a2)) 16)) = true := bne_iff_ne.mpr c27
                      obtain rfl := Option.some.inj H
                      go_wp2_with (first | ((with_reducible refine gate_callee (f := 9) rfl ?_); refine goesL_ (some 65) rfl rfl Try.func9 (by kernel_rfl) rfl #[.int .u64 (IntKind.u64.wrap (a4)), .int .i64 (wrap64 ((wrap64 (a1)) - 1)), .int .i64 (Int.tmod (wrap64 (a2)) 16)] rfl (by (try simp only [List.map_toArray, List.map_cons, List.map_nil]); first | done | rfl | (simp only [List.length_drop, List.length_take]; rfl)) ?_; (with_reducible refine (pack_Entry.calls (IntKind.u64.wrap (a4)) (wrap64 ((wrap64 (a1)) - 1)) (Int.tmod (wrap64 (a2)) 16) t107 _ A14.out).mono ?_); rintro e w' ⟨rfl, ⟨nd, rfl⟩⟩; refine ⟨_, rfl, ?_⟩) | ((with_reducible refine gate_callee (f := 19) rfl ?_); refine goesL_ (some 66) rfl rfl Try.func19 (by kernel_rfl) rfl #[.int .u64 t107] rfl (by (try simp only [List.map_toArray, List.map_cons, List.map_nil]); first | done | rfl | (simp only [List.length_drop, List.length_take]; rfl)) ?_; (with_reducible refine (pack_Unentry.calls t107 t108 t109 t110 _ A15.out).mono ?_); rintro e w' ⟨rfl, ⟨nd, rfl⟩⟩; refine ⟨_, rfl, ?_⟩) | ((with_reducible refine gate_callee (f := 11) rfl ?_); refine goesL_ (some 73) rfl rfl Try.func11 (by kernel_rfl) rfl #[.int .u64 (IntKind.u64.wrap (a4)), .bool a5] rfl (by (try simp only [List.map_toArray, List.map_cons, List.map_nil]); first | done | rfl | (simp only [List.length_drop, List.length_take]; rfl)) ?_; (with_reducible refine (pack_Announce.calls (IntKind.u64.wrap (a4)) a5 t111 _ A16.out).mono ?_); rintro e w' ⟨rfl, ⟨nd, rfl⟩⟩; refine ⟨_, rfl, ?_⟩) | ((with_reducible refine gate_callee (f := 21) rfl ?_); refine goesL_ (some 74) rfl rfl Try.func21 (by kernel_rfl) rfl #[.int .u64 t111] rfl (by (try simp only [List.map_toArray, List.map_cons, List.map_nil]); first | done | rfl | (simp only [List.length_drop, List.length_take]; rfl)) ?_; (with_reducible refine (pack_Unannounce.calls t111 t112 t113 _ A17.out).mono ?_); rintro e w' ⟨rfl, ⟨nd, rfl⟩⟩; refine ⟨_, rfl, ?_⟩) | ((with_reducible refine gate_callee (f := 13) rfl ?_); refine goesL_ (some 81) rfl rfl Try.func13 (by kernel_rfl) rfl #[.int .i64 (Int.tmod (wrap64 (a2)) 16), .int .i64 (Int.tmod (wrap64 (a3)) 16), .int .u64 (IntKind.u64.wrap (a4))] rfl (by (try simp only [List.map_toArray, List.map_cons, List.map_nil]); first | done | rfl | (simp only [List.length_drop, List.length_take]; rfl)) ?_; (with_reducible refine (pack_Slab.calls (Int.tmod (wrap64 (a2)) 16) (Int.tmod (wrap64 (a3)) 16) (IntKind.u64.wrap (a4)) t114 _ A18.out).mono ?_); rintro e w' ⟨rfl, ⟨nd, rfl⟩⟩; refine ⟨_, rfl, ?_⟩) | ((with_reducible refine gate_callee (f := 22) rfl ?_); refine goesL_ (some 82) rfl rfl Try.func22 (by kernel_rfl) rfl #[.int .u64 t114] rfl (by (try simp only [List.map_toArray, List.map_cons, List.map_nil]); first | done | rfl | (simp only [List.length_drop, List.length_take]; rfl)) ?_; (with_reducible refine (pack_Unslab.calls t114 t115 t116 t117 _ A19.out).mono ?_); rintro e w' ⟨rfl, ⟨nd, rfl⟩⟩; refine ⟨_, rfl, ?_⟩) | ((with_reducible refine gate_callee (f := 15) rfl ?_); refine goesL_ (some 89) rfl rfl Try.func15 (by kernel_rfl) rfl #[.int .i64 (wrap64 ((wrap64 (a0)) - 1)), .int .u64 (IntKind.u64.wrap (a4))] rfl (by (try simp only [List.map_toArray, List.map_cons, List.map_nil]); first | done | rfl | (simp only [List.length_drop, List.length_take]; rfl)) ?_; (with_reducible refine (pack_Ticket.calls (wrap64 ((wrap64 (a0)) - 1)) (IntKind.u64.wrap (a4)) t118 _ A20.out).mono ?_); rintro e w' ⟨rfl, ⟨nd, rfl⟩⟩; refine ⟨_, rfl, ?_⟩) | ((with_reducible refine gate_callee (f := 24) rfl ?_); refine goesL_ (some 90) rfl rfl Try.func24 (by kernel_rfl) rfl #[.int .u64 t118] rfl (by (try simp only [List.map_toArray, List.map_cons, List.map_nil]); first | done | rfl | (simp only [List.length_drop, List.length_take]; rfl)) ?_; (with_reducible refine (pack_Unticket.calls t118 t119 t120 _ A21.out).mono ?_); rintro e w' ⟨rfl, ⟨nd, rfl⟩⟩; refine ⟨_, rfl, ?_⟩))
                      go_ret
                      exact ⟨by first | rfl | (simp; done) | (simp [*]; done), by repeat (first | exact Drawn0.refl _ | apply Drawn0.step)⟩
                  · rw [if_neg c26] at H
                    have c26b0 : (t113 == a5) = false := by simpa using c26
                    (try (have c26b1 : decide (t113 = a5) = false := by simpa using c26))
                    (try (have c26b2 : (t113 == a5) = false := by simpa using c26))
                    (try (have c26b3 : ¬ (t113 = a5) := by simpa using c26))
                    clear c26
                    obtain rfl := Option.some.inj H
                    go_wp2_with (first | ((with_reducible refine gate_callee (f := 9) rfl ?_); refine goesL_ (some 65) rfl rfl Try.func9 (by kernel_rfl) rfl #[.int .u64 (IntKind.u64.wrap (a4)), .int .i64 (wrap64 ((wrap64 (a1)) - 1)), .int .i64 (Int.tmod (wrap64 (a2)) 16)] rfl (by (try simp only [List.map_toArray, List.map_cons, List.map_nil]); first | done | rfl | (simp only [List.length_drop, List.length_take]; rfl)) ?_; (with_reducible refine (pack_Entry.calls (IntKind.u64.wrap (a4)) (wrap64 ((wrap64 (a1)) - 1)) (Int.tmod (wrap64 (a2)) 16) t107 _ A14.out).mono ?_); rintro e w' ⟨rfl, ⟨nd, rfl⟩⟩; refine ⟨_, rfl, ?_⟩) | ((with_reducible refine gate_callee (f := 19) rfl ?_); refine goesL_ (some 66) rfl rfl Try.func19 (by kernel_rfl) rfl #[.int .u64 t107] rfl (by (try simp only [List.map_toArray, List.map_cons, List.map_nil]); first | done | rfl | (simp only [List.length_drop, List.length_take]; rfl)) ?_; (with_reducible refine (pack_Unentry.calls t107 t108 t109 t110 _ A15.out).mono ?_); rintro e w' ⟨rfl, ⟨nd, rfl⟩⟩; refine ⟨_, rfl, ?_⟩) | ((with_reducible refine gate_callee (f := 11) rfl ?_); refine goesL_ (some 73) rfl rfl Try.func11 (by kernel_rfl) rfl #[.int .u64 (IntKind.u64.wrap (a4)), .bool a5] rfl (by (try simp only [List.map_toArray, List.map_cons, List.map_nil]); first | done | rfl | (simp only [List.length_drop, List.length_take]; rfl)) ?_; (with_reducible refine (pack_Announce.calls (IntKind.u64.wrap (a4)) a5 t111 _ A16.out).mono ?_); rintro e w' ⟨rfl, ⟨nd, rfl⟩⟩; refine ⟨_, rfl, ?_⟩) | ((with_reducible refine gate_callee (f := 21) rfl ?_); refine goesL_ (some 74) rfl rfl Try.func21 (by kernel_rfl) rfl #[.int .u64 t111] rfl (by (try simp only [List.map_toArray, List.map_cons, List.map_nil]); first | done | rfl | (simp only [List.length_drop, List.length_take]; rfl)) ?_; (with_reducible refine (pack_Unannounce.calls t111 t112 t113 _ A17.out).mono ?_); rintro e w' ⟨rfl, ⟨nd, rfl⟩⟩; refine ⟨_, rfl, ?_⟩) | ((with_reducible refine gate_callee (f := 13) rfl ?_); refine goesL_ (some 81) rfl rfl Try.func13 (by kernel_rfl) rfl #[.int .i64 (Int.tmod (wrap64 (a2)) 16), .int .i64 (Int.tmod (wrap64 (a3)) 16), .int .u64 (IntKind.u64.wrap (a4))] rfl (by (try simp only [List.map_toArray, List.map_cons, List.map_nil]); first | done | rfl | (simp only [List.length_drop, List.length_take]; rfl)) ?_; (with_reducible refine (pack_Slab.calls (Int.tmod (wrap64 (a2)) 16) (Int.tmod (wrap64 (a3)) 16) (IntKind.u64.wrap (a4)) t114 _ A18.out).mono ?_); rintro e w' ⟨rfl, ⟨nd, rfl⟩⟩; refine ⟨_, rfl, ?_⟩) | ((with_reducible refine gate_callee (f := 22) rfl ?_); refine goesL_ (some 82) rfl rfl Try.func22 (by kernel_rfl) rfl #[.int .u64 t114] rfl (by (try simp only [List.map_toArray, List.map_cons, List.map_nil]); first | done | rfl | (simp only [List.length_drop, List.length_take]; rfl)) ?_; (with_reducible refine (pack_Unslab.calls t114 t115 t116 t117 _ A19.out).mono ?_); rintro e w' ⟨rfl, ⟨nd, rfl⟩⟩; refine ⟨_, rfl, ?_⟩) | ((with_reducible refine gate_callee (f := 15) rfl ?_); refine goesL_ (some 89) rfl rfl Try.func15 (by kernel_rfl) rfl #[.int .i64 (wrap64 ((wrap64 (a0)) - 1)), .int .u64 (IntKind.u64.wrap (a4))] rfl (by (try simp only [List.map_toArray, List.map_cons, List.map_nil]); first | done | rfl | (simp only [List.length_drop, List.length_take]; rfl)) ?_; (with_reducible refine (pack_Ticket.calls (wrap64 ((wrap64 (a0)) - 1)) (IntKind.u64.wrap (a4)) t118 _ A20.out).mono ?_); rintro e w' ⟨rfl, ⟨nd, rfl⟩⟩; refine ⟨_, rfl, ?_⟩) | ((with_reducible refine gate_callee (f := 24) rfl ?_); refine goesL_ (some 90) rfl rfl Try.func24 (by kernel_rfl) rfl #[.int .u64 t118] rfl (by (try simp only [List.map_toArray, List.map_cons, List.map_nil]); first | done | rfl | (simp only [List.length_drop, List.length_take]; rfl)) ?_; (with_reducible refine (pack_Unticket.calls t118 t119 t120 _ A21.out).mono ?_); rintro e w' ⟨rfl, ⟨nd, rfl⟩⟩; refine ⟨_, rfl, ?_⟩))
                    go_ret
                    exact ⟨by first | rfl | (simp; done) | (simp [*]; done), by repeat (first | exact Drawn0.refl _ | apply Drawn0.step)⟩
                · rw [if_neg c25] at H
                  have c25b0 : (t112 == (IntKind.u64.wrap (a4))) = false := beq_eq_false_iff_ne.mpr c25
                  have c25b1 : (t112 != (IntKind.u64.wrap (a4))) = true := bne_iff_ne.mpr c25
                  obtain rfl := Option.some.inj H
                  go_wp2_with (first | ((with_reducible refine gate_callee (f := 9) rfl ?_); refine goesL_ (some 65) rfl rfl Try.func9 (by kernel_rfl) rfl #[.int .u64 (IntKind.u64.wrap (a4)), .int .i64 (wrap64 ((wrap64 (a1)) - 1)), .int .i64 (Int.tmod (wrap64 (a2)) 16)] rfl (by (try simp only [List.map_toArray, List.map_cons, List.map_nil]); first | done | rfl | (simp only [List.length_drop, List.length_take]; rfl)) ?_; (with_reducible refine (pack_Entry.calls (IntKind.u64.wrap (a4)) (wrap64 ((wrap64 (a1)) - 1)) (Int.tmod (wrap64 (a2)) 16) t107 _ A14.out).mono ?_); rintro e w' ⟨rfl, ⟨nd, rfl⟩⟩; refine ⟨_, rfl, ?_⟩) | ((with_reducible refine gate_callee (f := 19) rfl ?_); refine goesL_ (some 66) rfl rfl Try.func19 (by kernel_rfl) rfl #[.int .u64 t107] rfl (by (try simp only [List.map_toArray, List.map_cons, List.map_nil]); first | done | rfl | (simp only [List.length_drop, List.length_take]; rfl)) ?_; (with_reducible refine (pack_Unentry.calls t107 t108 t109 t110 _ A15.out).mono ?_); rintro e w' ⟨rfl, ⟨nd, rfl⟩⟩; refine ⟨_, rfl, ?_⟩) | ((with_reducible refine gate_callee (f := 11) rfl ?_); refine goesL_ (some 73) rfl rfl Try.func11 (by kernel_rfl) rfl #[.int .u64 (IntKind.u64.wrap (a4)), .bool a5] rfl (by (try simp only [List.map_toArray, List.map_cons, List.map_nil]); first | done | rfl | (simp only [List.length_drop, List.length_take]; rfl)) ?_; (with_reducible refine (pack_Announce.calls (IntKind.u64.wrap (a4)) a5 t111 _ A16.out).mono ?_); rintro e w' ⟨rfl, ⟨nd, rfl⟩⟩; refine ⟨_, rfl, ?_⟩) | ((with_reducible refine gate_callee (f := 21) rfl ?_); refine goesL_ (some 74) rfl rfl Try.func21 (by kernel_rfl) rfl #[.int .u64 t111] rfl (by (try simp only [List.map_toArray, List.map_cons, List.map_nil]); first | done | rfl | (simp only [List.length_drop, List.length_take]; rfl)) ?_; (with_reducible refine (pack_Unannounce.calls t111 t112 t113 _ A17.out).mono ?_); rintro e w' ⟨rfl, ⟨nd, rfl⟩⟩; refine ⟨_, rfl, ?_⟩) | ((with_reducible refine gate_callee (f := 13) rfl ?_); refine goesL_ (some 81) rfl rfl Try.func13 (by kernel_rfl) rfl #[.int .i64 (Int.tmod (wrap64 (a2)) 16), .int .i64 (Int.tmod (wrap64 (a3)) 16), .int .u64 (IntKind.u64.wrap (a4))] rfl (by (try simp only [List.map_toArray, List.map_cons, List.map_nil]); first | done | rfl | (simp only [List.length_drop, List.length_take]; rfl)) ?_; (with_reducible refine (pack_Slab.calls (Int.tmod (wrap64 (a2)) 16) (Int.tmod (wrap64 (a3)) 16) (IntKind.u64.wrap (a4)) t114 _ A18.out).mono ?_); rintro e w' ⟨rfl, ⟨nd, rfl⟩⟩; refine ⟨_, rfl, ?_⟩) | ((with_reducible refine gate_callee (f := 22) rfl ?_); refine goesL_ (some 82) rfl rfl Try.func22 (by kernel_rfl) rfl #[.int .u64 t114] rfl (by (try simp only [List.map_toArray, List.map_cons, List.map_nil]); first | done | rfl | (simp only [List.length_drop, List.length_take]; rfl)) ?_; (with_reducible refine (pack_Unslab.calls t114 t115 t116 t117 _ A19.out).mono ?_); rintro e w' ⟨rfl, ⟨nd, rfl⟩⟩; refine ⟨_, rfl, ?_⟩) | ((with_reducible refine gate_callee (f := 15) rfl ?_); refine goesL_ (some 89) rfl rfl Try.func15 (by kernel_rfl) rfl #[.int .i64 (wrap64 ((wrap64 (a0)) - 1)), .int .u64 (IntKind.u64.wrap (a4))] rfl (by (try simp only [List.map_toArray, List.map_cons, List.map_nil]); first | done | rfl | (simp only [List.length_drop, List.length_take]; rfl)) ?_; (with_reducible refine (pack_Ticket.calls (wrap64 ((wrap64 (a0)) - 1)) (IntKind.u64.wrap (a4)) t118 _ A20.out).mono ?_); rintro e w' ⟨rfl, ⟨nd, rfl⟩⟩; refine ⟨_, rfl, ?_⟩) | ((with_reducible refine gate_callee (f := 24) rfl ?_); refine goesL_ (some 90) rfl rfl Try.func24 (by kernel_rfl) rfl #[.int .u64 t118] rfl (by (try simp only [List.map_toArray, List.map_cons, List.map_nil]); first | done | rfl | (simp only [List.length_drop, List.length_take]; rfl)) ?_; (with_reducible refine (pack_Unticket.calls t118 t119 t120 _ A21.out).mono ?_); rintro e w' ⟨rfl, ⟨nd, rfl⟩⟩; refine ⟨_, rfl, ?_⟩))
                  go_ret
                  exact ⟨by first | rfl | (simp; done) | (simp [*]; done), by repeat (first | exact Drawn0.refl _ | apply Drawn0.step)⟩
              · rw [if_neg c24] at H
                have c24b0 : (t110 == (Int.tmod (wrap64 (a2)) 16)) = false := beq_eq_false_iff_ne.mpr c24
                have c24b1 : (t110 != (Int.tmod (wrap64 (a2)) 16)) = true := bne_iff_ne.mpr c24
                obtain rfl := Option.some.inj H
                go_wp2_with (first | ((with_reducible refine gate_callee (f := 9) rfl ?_); refine goesL_ (some 65) rfl rfl Try.func9 (by kernel_rfl) rfl #[.int .u64 (IntKind.u64.wrap (a4)), .int .i64 (wrap64 ((wrap64 (a1)) - 1)), .int .i64 (Int.tmod (wrap64 (a2)) 16)] rfl (by (try simp only [List.map_toArray, List.map_cons, List.map_nil]); first | done | rfl | (simp only [List.length_drop, List.length_take]; rfl)) ?_; (with_reducible refine (pack_Entry.calls (IntKind.u64.wrap (a4)) (wrap64 ((wrap64 (a1)) - 1)) (Int.tmod (wrap64 (a2)) 16) t107 _ A14.out).mono ?_); rintro e w' ⟨rfl, ⟨nd, rfl⟩⟩; refine ⟨_, rfl, ?_⟩) | ((with_reducible refine gate_callee (f := 19) rfl ?_); refine goesL_ (some 66) rfl rfl Try.func19 (by kernel_rfl) rfl #[.int .u64 t107] rfl (by (try simp only [List.map_toArray, List.map_cons, List.map_nil]); first | done | rfl | (simp only [List.length_drop, List.length_take]; rfl)) ?_; (with_reducible refine (pack_Unentry.calls t107 t108 t109 t110 _ A15.out).mono ?_); rintro e w' ⟨rfl, ⟨nd, rfl⟩⟩; refine ⟨_, rfl, ?_⟩) | ((with_reducible refine gate_callee (f := 11) rfl ?_); refine goesL_ (some 73) rfl rfl Try.func11 (by kernel_rfl) rfl #[.int .u64 (IntKind.u64.wrap (a4)), .bool a5] rfl (by (try simp only [List.map_toArray, List.map_cons, List.map_nil]); first | done | rfl | (simp only [List.length_drop, List.length_take]; rfl)) ?_; (with_reducible refine (pack_Announce.calls (IntKind.u64.wrap (a4)) a5 t111 _ A16.out).mono ?_); rintro e w' ⟨rfl, ⟨nd, rfl⟩⟩; refine ⟨_, rfl, ?_⟩) | ((with_reducible refine gate_callee (f := 21) rfl ?_); refine goesL_ (some 74) rfl rfl Try.func21 (by kernel_rfl) rfl #[.int .u64 t111] rfl (by (try simp only [List.map_toArray, List.map_cons, List.map_nil]); first | done | rfl | (simp only [List.length_drop, List.length_take]; rfl)) ?_; (with_reducible refine (pack_Unannounce.calls t111 t112 t113 _ A17.out).mono ?_); rintro e w' ⟨rfl, ⟨nd, rfl⟩⟩; refine ⟨_, rfl, ?_⟩) | ((with_reducible refine gate_callee (f := 13) rfl ?_); refine goesL_ (some 81) rfl rfl Try.func13 (by kernel_rfl) rfl #[.int .i64 (Int.tmod (wrap64 (a2)) 16), .int .i64 (Int.tmod (wrap64 (a3)) 16), .int .u64 (IntKind.u64.wrap (a4))] rfl (by (try simp only [List.map_toArray, List.map_cons, List.map_nil]); first | done | rfl | (simp only [List.length_drop, List.length_take]; rfl)) ?_; (with_reducible refine (pack_Slab.calls (Int.tmod (wrap64 (a2)) 16) (Int.tmod (wrap64 (a3)) 16) (IntKind.u64.wrap (a4)) t114 _ A18.out).mono ?_); rintro e w' ⟨rfl, ⟨nd, rfl⟩⟩; refine ⟨_, rfl, ?_⟩) | ((with_reducible refine gate_callee (f := 22) rfl ?_); refine goesL_ (some 82) rfl rfl Try.func22 (by kernel_rfl) rfl #[.int .u64 t114] rfl (by (try simp only [List.map_toArray, List.map_cons, List.map_nil]); first | done | rfl | (simp only [List.length_drop, List.length_take]; rfl)) ?_; (with_reducible refine (pack_Unslab.calls t114 t115 t116 t117 _ A19.out).mono ?_); rintro e w' ⟨rfl, ⟨nd, rfl⟩⟩; refine ⟨_, rfl, ?_⟩) | ((with_reducible refine gate_callee (f := 15) rfl ?_); refine goesL_ (some 89) rfl rfl Try.func15 (by kernel_rfl) rfl #[.int .i64 (wrap64 ((wrap64 (a0)) - 1)), .int .u64 (IntKind.u64.wrap (a4))] rfl (by (try simp only [List.map_toArray, List.map_cons, List.map_nil]); first | done | rfl | (simp only [List.length_drop, List.length_take]; rfl)) ?_; (with_reducible refine (pack_Ticket.calls (wrap64 ((wrap64 (a0)) - 1)) (IntKind.u64.wrap (a4)) t118 _ A20.out).mono ?_); rintro e w' ⟨rfl, ⟨nd, rfl⟩⟩; refine ⟨_, rfl, ?_⟩) | ((with_reducible refine gate_callee (f := 24) rfl ?_); refine goesL_ (some 90) rfl rfl Try.func24 (by kernel_rfl) rfl #[.int .u64 t118] rfl (by (try simp only [List.map_toArray, List.map_cons, List.map_nil]); first | done | rfl | (simp only [List.length_drop, List.length_take]; rfl)) ?_; (with_reducible refine (pack_Unticket.calls t118 t119 t120 _ A21.out).mono ?_); rintro e w' ⟨rfl, ⟨nd, rfl⟩⟩; refine ⟨_, rfl, ?_⟩))
                go_ret
                exact ⟨by first | rfl | (simp; done) | (simp [*]; done), by repeat (first | exact Drawn0.refl _ | apply Drawn0.step)⟩
            · rw [if_neg c23] at H
              have c23b0 : (t109 == (wrap64 ((wrap64 (a1)) - 1))) = false := beq_eq_false_iff_ne.mpr c23
              have c23b1 : (t109 != (wrap64 ((wrap64 (a1)) - 1))) = true := bne_iff_ne.mpr c23
              obtain rfl := Option.some.inj H
              go_wp2_with (first | ((with_reducible refine gate_callee (f := 9) rfl ?_); refine goesL_ (some 65) rfl rfl Try.func9 (by kernel_rfl) rfl #[.int .u64 (IntKind.u64.wrap (a4)), .int .i64 (wrap64 ((wrap64 (a1)) - 1)), .int .i64 (Int.tmod (wrap64 (a2)) 16)] rfl (by (try simp only [List.map_toArray, List.map_cons, List.map_nil]); first | done | rfl | (simp only [List.length_drop, List.length_take]; rfl)) ?_; (with_reducible refine (pack_Entry.calls (IntKind.u64.wrap (a4)) (wrap64 ((wrap64 (a1)) - 1)) (Int.tmod (wrap64 (a2)) 16) t107 _ A14.out).mono ?_); rintro e w' ⟨rfl, ⟨nd, rfl⟩⟩; refine ⟨_, rfl, ?_⟩) | ((with_reducible refine gate_callee (f := 19) rfl ?_); refine goesL_ (some 66) rfl rfl Try.func19 (by kernel_rfl) rfl #[.int .u64 t107] rfl (by (try simp only [List.map_toArray, List.map_cons, List.map_nil]); first | done | rfl | (simp only [List.length_drop, List.length_take]; rfl)) ?_; (with_reducible refine (pack_Unentry.calls t107 t108 t109 t110 _ A15.out).mono ?_); rintro e w' ⟨rfl, ⟨nd, rfl⟩⟩; refine ⟨_, rfl, ?_⟩) | ((with_reducible refine gate_callee (f := 11) rfl ?_); refine goesL_ (some 73) rfl rfl Try.func11 (by kernel_rfl) rfl #[.int .u64 (IntKind.u64.wrap (a4)), .bool a5] rfl (by (try simp only [List.map_toArray, List.map_cons, List.map_nil]); first | done | rfl | (simp only [List.length_drop, List.length_take]; rfl)) ?_; (with_reducible refine (pack_Announce.calls (IntKind.u64.wrap (a4)) a5 t111 _ A16.out).mono ?_); rintro e w' ⟨rfl, ⟨nd, rfl⟩⟩; refine ⟨_, rfl, ?_⟩) | ((with_reducible refine gate_callee (f := 21) rfl ?_); refine goesL_ (some 74) rfl rfl Try.func21 (by kernel_rfl) rfl #[.int .u64 t111] rfl (by (try simp only [List.map_toArray, List.map_cons, List.map_nil]); first | done | rfl | (simp only [List.length_drop, List.length_take]; rfl)) ?_; (with_reducible refine (pack_Unannounce.calls t111 t112 t113 _ A17.out).mono ?_); rintro e w' ⟨rfl, ⟨nd, rfl⟩⟩; refine ⟨_, rfl, ?_⟩) | ((with_reducible refine gate_callee (f := 13) rfl ?_); refine goesL_ (some 81) rfl rfl Try.func13 (by kernel_rfl) rfl #[.int .i64 (Int.tmod (wrap64 (a2)) 16), .int .i64 (Int.tmod (wrap64 (a3)) 16), .int .u64 (IntKind.u64.wrap (a4))] rfl (by (try simp only [List.map_toArray, List.map_cons, List.map_nil]); first | done | rfl | (simp only [List.length_drop, List.length_take]; rfl)) ?_; (with_reducible refine (pack_Slab.calls (Int.tmod (wrap64 (a2)) 16) (Int.tmod (wrap64 (a3)) 16) (IntKind.u64.wrap (a4)) t114 _ A18.out).mono ?_); rintro e w' ⟨rfl, ⟨nd, rfl⟩⟩; refine ⟨_, rfl, ?_⟩) | ((with_reducible refine gate_callee (f := 22) rfl ?_); refine goesL_ (some 82) rfl rfl Try.func22 (by kernel_rfl) rfl #[.int .u64 t114] rfl (by (try simp only [List.map_toArray, List.map_cons, List.map_nil]); first | done | rfl | (simp only [List.length_drop, List.length_take]; rfl)) ?_; (with_reducible refine (pack_Unslab.calls t114 t115 t116 t117 _ A19.out).mono ?_); rintro e w' ⟨rfl, ⟨nd, rfl⟩⟩; refine ⟨_, rfl, ?_⟩) | ((with_reducible refine gate_callee (f := 15) rfl ?_); refine goesL_ (some 89) rfl rfl Try.func15 (by kernel_rfl) rfl #[.int .i64 (wrap64 ((wrap64 (a0)) - 1)), .int .u64 (IntKind.u64.wrap (a4))] rfl (by (try simp only [List.map_toArray, List.map_cons, List.map_nil]); first | done | rfl | (simp only [List.length_drop, List.length_take]; rfl)) ?_; (with_reducible refine (pack_Ticket.calls (wrap64 ((wrap64 (a0)) - 1)) (IntKind.u64.wrap (a4)) t118 _ A20.out).mono ?_); rintro e w' ⟨rfl, ⟨nd, rfl⟩⟩; refine ⟨_, rfl, ?_⟩) | ((with_reducible refine gate_callee (f := 24) rfl ?_); refine goesL_ (some 90) rfl rfl Try.func24 (by kernel_rfl) rfl #[.int .u64 t118] rfl (by (try simp only [List.map_toArray, List.map_cons, List.map_nil]); first | done | rfl | (simp only [List.length_drop, List.length_take]; rfl)) ?_; (with_reducible refine (pack_Unticket.calls t118 t119 t120 _ A21.out).mono ?_); rintro e w' ⟨rfl, ⟨nd, rfl⟩⟩; refine ⟨_, rfl, ?_⟩))
              go_ret
              exact ⟨by first | rfl | (simp; done) | (simp [*]; done), by repeat (first | exact Drawn0.refl _ | apply Drawn0.step)⟩
          · rw [if_neg c22] at H
            have c22b0 : (t108 == (IntKind.u64.wrap (a4))) = false := beq_eq_false_iff_ne.mpr c22
            have c22b1 : (t108 != (IntKind.u64.wrap (a4))) = true := bne_iff_ne.mpr c22
            obtain rfl := Option.some.inj H
            go_wp2_with (first | ((with_reducible refine gate_callee (f := 9) rfl ?_); refine goesL_ (some 65) rfl rfl Try.func9 (by kernel_rfl) rfl #[.int .u64 (IntKind.u64.wrap (a4)), .int .i64 (wrap64 ((wrap64 (a1)) - 1)), .int .i64 (Int.tmod (wrap64 (a2)) 16)] rfl (by (try simp only [List.map_toArray, List.map_cons, List.map_nil]); first | done | rfl | (simp only [List.length_drop, List.length_take]; rfl)) ?_; (with_reducible refine (pack_Entry.calls (IntKind.u64.wrap (a4)) (wrap64 ((wrap64 (a1)) - 1)) (Int.tmod (wrap64 (a2)) 16) t107 _ A14.out).mono ?_); rintro e w' ⟨rfl, ⟨nd, rfl⟩⟩; refine ⟨_, rfl, ?_⟩) | ((with_reducible refine gate_callee (f := 19) rfl ?_); refine goesL_ (some 66) rfl rfl Try.func19 (by kernel_rfl) rfl #[.int .u64 t107] rfl (by (try simp only [List.map_toArray, List.map_cons, List.map_nil]); first | done | rfl | (simp only [List.length_drop, List.length_take]; rfl)) ?_; (with_reducible refine (pack_Unentry.calls t107 t108 t109 t110 _ A15.out).mono ?_); rintro e w' ⟨rfl, ⟨nd, rfl⟩⟩; refine ⟨_, rfl, ?_⟩) | ((with_reducible refine gate_callee (f := 11) rfl ?_); refine goesL_ (some 73) rfl rfl Try.func11 (by kernel_rfl) rfl #[.int .u64 (IntKind.u64.wrap (a4)), .bool a5] rfl (by (try simp only [List.map_toArray, List.map_cons, List.map_nil]); first | done | rfl | (simp only [List.length_drop, List.length_take]; rfl)) ?_; (with_reducible refine (pack_Announce.calls (IntKind.u64.wrap (a4)) a5 t111 _ A16.out).mono ?_); rintro e w' ⟨rfl, ⟨nd, rfl⟩⟩; refine ⟨_, rfl, ?_⟩) | ((with_reducible refine gate_callee (f := 21) rfl ?_); refine goesL_ (some 74) rfl rfl Try.func21 (by kernel_rfl) rfl #[.int .u64 t111] rfl (by (try simp only [List.map_toArray, List.map_cons, List.map_nil]); first | done | rfl | (simp only [List.length_drop, List.length_take]; rfl)) ?_; (with_reducible refine (pack_Unannounce.calls t111 t112 t113 _ A17.out).mono ?_); rintro e w' ⟨rfl, ⟨nd, rfl⟩⟩; refine ⟨_, rfl, ?_⟩) | ((with_reducible refine gate_callee (f := 13) rfl ?_); refine goesL_ (some 81) rfl rfl Try.func13 (by kernel_rfl) rfl #[.int .i64 (Int.tmod (wrap64 (a2)) 16), .int .i64 (Int.tmod (wrap64 (a3)) 16), .int .u64 (IntKind.u64.wrap (a4))] rfl (by (try simp only [List.map_toArray, List.map_cons, List.map_nil]); first | done | rfl | (simp only [List.length_drop, List.length_take]; rfl)) ?_; (with_reducible refine (pack_Slab.calls (Int.tmod (wrap64 (a2)) 16) (Int.tmod (wrap64 (a3)) 16) (IntKind.u64.wrap (a4)) t114 _ A18.out).mono ?_); rintro e w' ⟨rfl, ⟨nd, rfl⟩⟩; refine ⟨_, rfl, ?_⟩) | ((with_reducible refine gate_callee (f := 22) rfl ?_); refine goesL_ (some 82) rfl rfl Try.func22 (by kernel_rfl) rfl #[.int .u64 t114] rfl (by (try simp only [List.map_toArray, List.map_cons, List.map_nil]); first | done | rfl | (simp only [List.length_drop, List.length_take]; rfl)) ?_; (with_reducible refine (pack_Unslab.calls t114 t115 t116 t117 _ A19.out).mono ?_); rintro e w' ⟨rfl, ⟨nd, rfl⟩⟩; refine ⟨_, rfl, ?_⟩) | ((with_reducible refine gate_callee (f := 15) rfl ?_); refine goesL_ (some 89) rfl rfl Try.func15 (by kernel_rfl) rfl #[.int .i64 (wrap64 ((wrap64 (a0)) - 1)), .int .u64 (IntKind.u64.wrap (a4))] rfl (by (try simp only [List.map_toArray, List.map_cons, List.map_nil]); first | done | rfl | (simp only [List.length_drop, List.length_take]; rfl)) ?_; (with_reducible refine (pack_Ticket.calls (wrap64 ((wrap64 (a0)) - 1)) (IntKind.u64.wrap (a4)) t118 _ A20.out).mono ?_); rintro e w' ⟨rfl, ⟨nd, rfl⟩⟩; refine ⟨_, rfl, ?_⟩) | ((with_reducible refine gate_callee (f := 24) rfl ?_); refine goesL_ (some 90) rfl rfl Try.func24 (by kernel_rfl) rfl #[.int .u64 t118] rfl (by (try simp only [List.map_toArray, List.map_cons, List.map_nil]); first | done | rfl | (simp only [List.length_drop, List.length_take]; rfl)) ?_; (with_reducible refine (pack_Unticket.calls t118 t119 t120 _ A21.out).mono ?_); rintro e w' ⟨rfl, ⟨nd, rfl⟩⟩; refine ⟨_, rfl, ?_⟩))
            go_ret
            exact ⟨by first | rfl | (simp; done) | (simp [*]; done), by repeat (first | exact Drawn0.refl _ | apply Drawn0.step)⟩
  · replace c8 := Bool.eq_false_iff.mpr c8
    subst c8
    have H1 : (some false) = some r := by rw [if_neg (show ¬ (false = true) by decide)] at H; exact H
    clear H
    have H := H1
    clear H1
    obtain rfl := Option.some.inj H
    go_enter Try.func5, Try.ntmps5
    go_wp2_with (first | ((with_reducible refine gate_callee (f := 6) rfl ?_); refine goesL_ (some 30) rfl rfl Try.func6 (by kernel_rfl) rfl #[] rfl (by (try simp only [List.map_toArray, List.map_cons, List.map_nil]); first | done | rfl | (simp only [List.length_drop, List.length_take]; rfl)) ?_; (with_reducible refine (coatchecklaw01_awake.calls  false _ A7.out).mono ?_); rintro e w' ⟨rfl, ⟨nd, rfl⟩⟩; refine ⟨_, rfl, ?_⟩))
    go_ret
    exact ⟨by first | rfl | (simp; done) | (simp [*]; done), by repeat (first | exact Drawn0.refl _ | apply Drawn0.step)⟩

/-- THE ONE PURE STATEMENT of coatchecklaw01_PackFits: yours. -/
def coatchecklaw01_PackFits.Pure : Prop := ∀ (a0 : Int) (a1 : Int) (a2 : Int) (a3 : Int) (a4 : Int) (a5 : Bool), (Lit.int .u16 a0).wf = true → (Lit.int .u16 a1).wf = true → (Lit.int .u8 a2).wf = true → (Lit.int .u8 a3).wf = true → (Lit.int .u32 a4).wf = true → ∃ k, coatchecklaw01_PackFits.f k a0 a1 a2 a3 a4 a5 = some true
theorem coatchecklaw01_PackFits.walk (P : coatchecklaw01_PackFits.Pure) (a0 : Int) (a1 : Int) (a2 : Int) (a3 : Int) (a4 : Int) (a5 : Bool) (w : World) (w0 : (Lit.int .u16 a0).wf = true) (w1 : (Lit.int .u16 a1).wf = true) (w2 : (Lit.int .u8 a2).wf = true) (w3 : (Lit.int .u8 a3).wf = true) (w4 : (Lit.int .u32 a4).wf = true) :
    Calls Try.prog 5 #[.int .u16 a0, .int .u16 a1, .int .u8 a2, .int .u8 a3, .int .u32 a4, .bool a5] w fun e w' => e = .returned (.bool true) ∧ Below w.heap.size w w' := by
  obtain ⟨k, h⟩ := P a0 a1 a2 a3 a4 a5 w0 w1 w2 w3 w4
  refine (coatchecklaw01_PackFits.calls k a0 a1 a2 a3 a4 a5 true w h).mono ?_
  rintro e w' ⟨rfl, hd⟩
  exact ⟨rfl, hd.below⟩

end Go.Proofs.Ytnbelpndlkbepaa.PPackFits
