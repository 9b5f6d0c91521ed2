/- SpaceActs answers true whatever is done with maps of any size: no condition. -/
import Derived.Test.YtbffdmhplfclkaaNg
set_option linter.all false
/-! part P16ap -/
namespace Go.Proofs.Ytbffdmhplfclkaa.spaceActs
open Go.ChangeShapes Go.WideShapes Go.ChangeAt Go.RowKit

theorem own : ownKnob Try.prog.godebug = none := by kernel_rfl

set_option maxRecDepth 100000 in
theorem lifted (os : Os) (started : os.Started) (H : Type) (enc : TypeId × Value → H) :
    ReturnsInHanded {} Try.checked os 6 .any (Rows.spaceActsSpec.pre6 enc Try.prog Try.f6 Rows.spaceActsRow.domain false) (Rows.spaceActsSpec.post enc Try.prog Try.f6 false true false false) := by
  refine returnsInHanded_of_change (C := Try.checked) own started (by kernel_rfl) Try.func6
    (ChangeSpec.witness6 (enc := enc) (C := Try.checked) false ⟨#[], #[.int .i64 0, .slice none 0 0], []⟩ 8 (by kernel_rfl) (by kernel_rfl) (by kernel_rfl) (by kernel_rfl)) ?_
  intro W base args ds gs before hval hW _ _
  refine Av.law_contract (P := Try.prog) (Ss := [Av.intS,Av.actsS]) (tr := 4) Av.laidO (by kernel_rfl) (by kernel_rfl) Try.underlying4 rfl (by rw [Try.params6]; exact ⟨Av.rd3, Av.rd42, trivial⟩) ?_ ?_ H enc W base args ds gs before hval hW
  · intro H ds h
    rw [Try.params6] at h
    match ds, h with
    | [d0, d1], _ => rfl
  · intro xs h
    obtain ⟨x0, x1, rfl, h0, h1⟩ := Av.all2_2 h
    exact Av.law6n h0 h1

theorem proved : Rows.SpaceActsSaid :=
  OpenClaim.holds_of_wide 6 Try.f6 rfl rfl rfl rfl rfl rfl rfl ⟨rfl, rfl, rfl, rfl, rfl⟩ rfl rfl rfl rfl rfl (by kernel_rfl) Try.func6 (by kernel_rfl)
    (of_decide_eq_true (by kernel_rfl)) (by unfold Func.isWrapper; first | (rw [if_pos (by decide +kernel)]; kernel_rfl) | (rw [if_neg (by decide +kernel)]; exact ⟨rfl, rfl⟩))
    (fun os started H enc _ => lifted os started H enc)
end Go.Proofs.Ytbffdmhplfclkaa.spaceActs
