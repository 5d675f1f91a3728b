/- BagRoom: whatever the configuration, the epoch and the number, the law comes back true, and its arguments read as they did. No condition. -/
import Derived.Test.YtggaecdhgbdilaaLawRoom
import Derived.Test.YtggaecdhgbdilaaOpen2
set_option linter.unusedVariables false
namespace Go.Proofs.Ytggaecdhgbdilaa
open Go Go.Ax

theorem opn_room : OpnL Try.prog lay [38, 22, 5] aRoomL (fun _ => True) := fun H enc w base vs ds ps h hv => by
  obtain ⟨a, h1, _⟩ := OpnL.cons opn_cfg (OpnL.cons opn_word (OpnL.last opn_byte)) H enc w base vs ds ps h hv
  exact ⟨a, h1, trivial⟩
set_option maxRecDepth 100000 in
theorem lifted_room (os : Os) (started : os.Started) (H : Type) (enc : TypeId × Value → H) :
    ReturnsInHanded {} Try.checked os 7 .any (Rows.bagRoomSpec.pre6 enc Try.prog Try.f7 Rows.bagRoomRow.domain false) (Rows.bagRoomSpec.post enc Try.prog Try.f7 false true false false) :=
  row_ok (C := Try.checked) (c := cx) (code := codeOf Try.f7) (ts := [38, 22, 5]) (tb := 4) (spec := fun p => specRoom p.1) (n := 200) own started (by kernel_rfl) Try.func7 (body_of (by kernel_rfl)) (by kernel_rfl) (by kernel_rfl) Try.underlying4 rfl
    (fun ds h => by match ds, h with | [d1, d2, d3], _ => rfl)
    (ChangeSpec.witness6 (enc := enc) (C := Try.checked) false ⟨#[], #[.agg #[.int .i64 0, .int .i64 0, .int .i64 0, .int .i64 0, .int .i64 0, .int .i64 0, .int .i64 0, .int .u64 0], .int .u64 0, .int .u8 0], []⟩ 12 (by kernel_rfl) (by kernel_rfl) (by kernel_rfl) (by kernel_rfl))
    (by kernel_rfl) (by kernel_rfl) rfl opn_room ΓB_ok (fun ⟨c, e, m⟩ _ => room_told c e m)
theorem over_room : Rows.bagRoomRow.holds Try.pinned (OpenSpec.ofChange Rows.bagRoomSpec) :=
  OpenClaim.holds_of_wide 7 Try.f7 rfl rfl rfl rfl rfl rfl rfl ⟨rfl, rfl, rfl, rfl, rfl⟩ rfl rfl rfl rfl rfl (by kernel_rfl) Try.func7 (by kernel_rfl)
    (of_decide_eq_true (by kernel_rfl)) (by unfold Func.isWrapper; first | (rw [if_pos (by decide +kernel)]; kernel_rfl) | (rw [if_neg (by decide +kernel)]; exact ⟨rfl, rfl⟩))
    (fun os started H enc _ => lifted_room os started H enc)
/-- The row. -/
theorem bagRoom_holds : Rows.BagRoomSaid := over_room
#print axioms bagRoom_holds
end Go.Proofs.Ytggaecdhgbdilaa
