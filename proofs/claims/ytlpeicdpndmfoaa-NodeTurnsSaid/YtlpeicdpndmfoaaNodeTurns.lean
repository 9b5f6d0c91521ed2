/- NodeTurns answers true whatever the node and the turn, and leaves both as they were: no condition. -/
import Derived.Test.YtlpeicdpndmfoaaNc
set_option linter.all false
/-! part N17q -/
namespace Go.Proofs.Ytlpeicdpndmfoaa.nodeTurns
open Go.ChangeShapes Go.WideShapes Go.ChangeAt Go.RowKit

theorem own : ownKnob Try.prog.godebug = none := by kernel_rfl

set_option maxRecDepth 100000 in
theorem lifted (os : Os) (started : os.Started) (H : Type) (enc : TypeId × Value → H) :
    ReturnsInHanded {} Try.checked os 4 .any (Rows.nodeTurnsSpec.pre6 enc Try.prog Try.f4 Rows.nodeTurnsRow.domain false) (Rows.nodeTurnsSpec.post enc Try.prog Try.f4 false true false false) := by
  refine returnsInHanded_of_change (C := Try.checked) own started (by kernel_rfl) Try.func4
    (ChangeSpec.witness6 (enc := enc) (C := Try.checked) false ⟨#[], #[.agg #[.bool false, .slice none 0 0, .slice none 0 0], .agg #[.int .i64 0, .string ⟨#[]⟩, .slice none 0 0]], []⟩ 8 (by kernel_rfl) (by kernel_rfl) (by kernel_rfl) (by kernel_rfl)) ?_
  intro W base args ds gs before hval hW _ _
  refine Av.law_contract (P := Try.prog) (Ss := [Av.nodeS, Av.turnS]) (tr := 4) Av.laidO (by kernel_rfl) (by kernel_rfl) Try.underlying4 rfl (by rw [Try.params4]; exact ⟨Av.rd25, Av.rd33, trivial⟩) ?_ ?_ H enc W base args ds gs before hval hW
  · intro H ds h
    rw [Try.params4] at h
    match ds, h with
    | [d0, d1], _ => rfl
  · intro xs h
    match xs, h with
    | [x0, x1], ⟨⟨l, ks, vs, hx⟩, ⟨a, s, us, hy⟩, _⟩ => subst hx; subst hy; exact Av.law4 l ks vs a s us

theorem proved : Rows.NodeTurnsSaid :=
  OpenClaim.holds_of_wide 4 Try.f4 rfl rfl rfl rfl rfl rfl rfl ⟨rfl, rfl, rfl, rfl, rfl⟩ rfl rfl rfl rfl rfl (by kernel_rfl) Try.func4 (by kernel_rfl)
    (of_decide_eq_true (by kernel_rfl)) (by unfold Func.isWrapper; first | (rw [if_pos (by decide +kernel)]; kernel_rfl) | (rw [if_neg (by decide +kernel)]; exact ⟨rfl, rfl⟩))
    (fun os started H enc _ => lifted os started H enc)
end Go.Proofs.Ytlpeicdpndmfoaa.nodeTurns
