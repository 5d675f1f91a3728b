/- WholeTickets: whatever the configuration, the programs and the schedule, the law comes back true, and its arguments read as they did. No condition. -/
import Derived.Test.YtaeepogbgflbpaaGreatM10
set_option linter.unusedVariables false
namespace Go.Proofs.YtaeepogbgflbpaaGreat
open Go Go.Ax

set_option maxRecDepth 100000 in
theorem lifted_tickets (os : Os) (started : os.Started) (H : Type) (enc : TypeId × Value → H) :
    ReturnsInHanded {} Tryz.checked os 3 .any (Rows.wholeTicketsSpec.pre6 enc Tryz.prog Tryz.f3 Rows.wholeTicketsRow.domain false) (Rows.wholeTicketsSpec.post enc Tryz.prog Tryz.f3 false true false false) :=
  row_ok (C := Tryz.checked) (c := cx) (code := codeOf Tryz.f3) (ts := [24, 25, 26]) (tb := 4) (spec := fun p => specTick p.1 (playH p)) (n := 100) own started (by kernel_rfl) Tryz.func3 (body_of (by kernel_rfl)) (by kernel_rfl) (by kernel_rfl) Tryz.underlying4 rfl
    (fun ds h => by match ds, h with | [d1, d2, d3], _ => rfl)
    (ChangeSpec.witness6 (enc := enc) (C := Tryz.checked) false ⟨#[], #[.agg #[.int .i64 0, .int .i64 0, .int .i64 0, .int .i64 0, .int .i64 0, .int .i64 0, .int .i64 0, .int .u64 0], .slice none 0 0, .slice none 0 0], []⟩ 12 (by kernel_rfl) (by kernel_rfl) (by kernel_rfl) (by kernel_rfl))
    (by kernel_rfl) (by kernel_rfl) rfl opn_whole ΓT3_ok (fun ⟨c, l, p⟩ _ => tickets_told c l p (play_fine c l p) (fun h => ticks_ok h))
theorem over_tickets : Rows.wholeTicketsRow.holds Tryz.pinned (OpenSpec.ofChange Rows.wholeTicketsSpec) :=
  OpenClaim.holds_of_wide 3 Tryz.f3 rfl rfl rfl rfl rfl rfl rfl ⟨rfl, rfl, rfl, rfl, rfl⟩ rfl rfl rfl rfl rfl (by kernel_rfl) Tryz.func3 (by kernel_rfl)
    (of_decide_eq_true (by kernel_rfl)) (by unfold Func.isWrapper; first | (rw [if_pos (by decide +kernel)]; kernel_rfl) | (rw [if_neg (by decide +kernel)]; exact ⟨rfl, rfl⟩))
    (fun os started H enc _ => lifted_tickets os started H enc)
/-- The row. -/
theorem wholeTickets_holds : Rows.WholeTicketsSaid := over_tickets
#print axioms wholeTickets_holds
end Go.Proofs.YtaeepogbgflbpaaGreat
