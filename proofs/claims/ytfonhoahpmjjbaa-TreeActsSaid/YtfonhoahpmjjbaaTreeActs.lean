/- TreeActs answers true whatever the input, and leaves it as it was: no condition. -/
import Derived.Test.YtfonhoahpmjjbaaFh
set_option linter.all false
/-! part W46 -/
namespace Go.Proofs.Ytfonhoahpmjjbaa.treeActs
open Go.ChangeShapes Go.WideShapes Go.ChangeAt Go.RowKit

theorem own : ownKnob Try.prog.godebug = none := by kernel_rfl

set_option maxRecDepth 100000 in
theorem lifted (os : Os) (started : os.Started) (H : Type) (enc : TypeId × Value → H) :
    ReturnsInHanded {} Try.checked os 7 .any (Rows.treeActsSpec.pre6 enc Try.prog Try.f7 Rows.treeActsRow.domain false) (Rows.treeActsSpec.post enc Try.prog Try.f7 false true false false) := by
  refine returnsInHanded_of_change (C := Try.checked) own started (by kernel_rfl) Try.func7
    (ChangeSpec.witness6 (enc := enc) (C := Try.checked) false ⟨#[], #[.slice none 0 0], []⟩ 8 (by kernel_rfl) (by kernel_rfl) (by kernel_rfl) (by kernel_rfl)) ?_
  intro W base args ds gs before hval hW _ _
  refine Av.law_contract (P := Try.prog) (Ss := [Av.actsS]) (tr := 4) Av.laidO (by kernel_rfl) (by kernel_rfl) Try.underlying4 rfl (by rw [Try.params7]; exact ⟨Av.rd22, trivial⟩) ?_ ?_ H enc W base args ds gs before hval hW
  · intro H ds h
    rw [Try.params7] at h
    match ds, h with
    | [d0], _ => rfl
  · intro xs h
    obtain ⟨x0, rfl, h0⟩ := Av.all2_1 h
    exact Av.law7n h0

theorem proved : Rows.TreeActsSaid :=
  OpenClaim.holds_of_wide 7 Try.f7 rfl rfl rfl rfl rfl rfl rfl ⟨rfl, rfl, rfl, rfl, rfl⟩ rfl rfl rfl rfl rfl (by kernel_rfl) Try.func7 (by kernel_rfl)
    (of_decide_eq_true (by kernel_rfl)) (by unfold Func.isWrapper; first | (rw [if_pos (by decide +kernel)]; kernel_rfl) | (rw [if_neg (by decide +kernel)]; exact ⟨rfl, rfl⟩))
    (fun os started H enc _ => lifted os started H enc)
end Go.Proofs.Ytfonhoahpmjjbaa.treeActs
