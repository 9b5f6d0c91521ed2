/- SpaceBack answers true whatever the lists: no condition. -/
import Derived.Test.YtbffdmhplfclkaaNf
set_option linter.all false
/-! part P16zc -/
namespace Go.Proofs.Ytbffdmhplfclkaa.spaceBack
open Go.ChangeShapes Go.WideShapes Go.ChangeAt Go.RowKit

theorem own : ownKnob Try.prog.godebug = none := by kernel_rfl

set_option maxRecDepth 100000 in
theorem lifted (os : Os) (started : os.Started) (H : Type) (enc : TypeId × Value → H) :
    ReturnsInHanded {} Try.checked os 4 .any (Rows.spaceBackSpec.pre6 enc Try.prog Try.f4 Rows.spaceBackRow.domain false) (Rows.spaceBackSpec.post enc Try.prog Try.f4 false true false false) := by
  refine returnsInHanded_of_change (C := Try.checked) own started (by kernel_rfl) Try.func4
    (ChangeSpec.witness6 (enc := enc) (C := Try.checked) false ⟨#[], #[.slice none 0 0, .slice none 0 0, .bool false], []⟩ 8 (by kernel_rfl) (by kernel_rfl) (by kernel_rfl) (by kernel_rfl)) ?_
  intro W base args ds gs before hval hW _ _
  refine Av.law_contract (P := Try.prog) (Ss := [Av.intsS,Av.intsS,Av.boolS]) (tr := 4) Av.laidO (by kernel_rfl) (by kernel_rfl) Try.underlying4 rfl (by rw [Try.params4]; exact ⟨Av.rd22, Av.rd22, Av.rd4, trivial⟩) ?_ ?_ H enc W base args ds gs before hval hW
  · intro H ds h
    rw [Try.params4] at h
    match ds, h with
    | [d0, d1, d2], _ => rfl
  · intro xs h
    obtain ⟨x0, x1, x2, rfl, h0, h1, h2⟩ := Av.all2_3 h
    exact Av.law4n h0 h1 h2

theorem proved : Rows.SpaceBackSaid :=
  OpenClaim.holds_of_wide 4 Try.f4 rfl rfl rfl rfl rfl rfl rfl ⟨rfl, rfl, rfl, rfl, rfl⟩ rfl rfl rfl rfl rfl (by kernel_rfl) Try.func4 (by kernel_rfl)
    (of_decide_eq_true (by kernel_rfl)) (by unfold Func.isWrapper; first | (rw [if_pos (by decide +kernel)]; kernel_rfl) | (rw [if_neg (by decide +kernel)]; exact ⟨rfl, rfl⟩))
    (fun os started H enc _ => lifted os started H enc)
end Go.Proofs.Ytbffdmhplfclkaa.spaceBack
