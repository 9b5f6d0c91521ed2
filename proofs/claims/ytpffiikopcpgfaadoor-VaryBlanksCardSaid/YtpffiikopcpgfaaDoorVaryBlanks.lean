/- VaryBlanks answers true whatever the input, and leaves it as it was; its card is tied to the program's text: no condition. -/
import Derived.Test.YtpffiikopcpgfaaDoorDv
import Derived.Test.YtpffiikopcpgfaaDoorTie
import Derived.Test.YtpffiikopcpgfaaDoorCards
import Derived.ProofKit
import Derived.OpenShut
import Derived.LaidMore
import Derived.Lay
import Derived.SevenTiedAt
import Derived.Stop.Joined
set_option linter.all false
/-! part Q107 -/
namespace Go.Proofs.YtpffiikopcpgfaaDoor.varyBlanks
open Go.ChangeShapes Go.WideShapes Go.ChangeAt Go.RowKit

theorem own : ownKnob Tryd.prog.godebug = none := by kernel_rfl

set_option maxRecDepth 100000 in
theorem lifted (os : Os) (started : os.Started) (H : Type) (enc : TypeId × Value → H) :
    ReturnsInHanded {} Tryd.checked os 17 .any (fun w args => (Rows.varyBlanksSpec.pre enc Tryd.prog Tryd.f17 Rows.varyBlanksRow.domain false w args ∧ laidMetH Tryd.prog Rows.varyBlanksRow.laid w) ∧ sizedMet enc Tryd.prog Tryd.f17 (OpenSpec.ofChange Rows.varyBlanksSpec) false w args)
      (Rows.varyBlanksSpec.post enc Tryd.prog Tryd.f17 false true false false) := by
  refine returnsInHanded_of_change_and (C := Tryd.checked) (X := fun w _ => laidMetH Tryd.prog Rows.varyBlanksRow.laid w) (fun _ _ _ hh h => h.of_heap hh) own started (by kernel_rfl) Tryd.func17
    (ChangeSpec.witness_shaped (enc := enc) (C := Tryd.checked) (os := os) (X := fun w _ => laidMetH Tryd.prog Rows.varyBlanksRow.laid w) false (World.laidAll Tryd.prog os Rows.varyBlanksRow.laid) #[.slice none 0 0, .slice none 0 0, .agg #[.string ⟨#[]⟩, .string ⟨#[]⟩]] 8 (World.laidAll_os _ _ _)
      (World.shaped_of_ZipB (by kernel_rfl) (by kernel_rfl)) (by kernel_rfl) (by kernel_rfl) (by kernel_rfl)
      (by rw [MakeChecks.laidMetH_plain _ _ _ (by kernel_rfl)]; exact laidMet_laidAll _ (by kernel_rfl) (by kernel_rfl))) ?_
  intro W base args ds gs before hval hW _ _ _ _
  refine Av.law_contract (P := Tryd.prog) (Ss := [Av.strsS,Av.fldsS,Av.fldS]) (tr := 4) Av.laidO (by kernel_rfl) (by kernel_rfl) Tryd.underlying4 rfl (by rw [Tryd.params17]; exact ⟨Av.rd36, Av.rd61, Av.rd67, trivial⟩) ?_ ?_ H enc W base args ds gs before hval hW
  · intro H ds h
    rw [Tryd.params17] at h
    match ds, h with
    | [d0, d1, d2], _ => rfl
  · intro xs h
    obtain ⟨x0, x1, x2, rfl, h0, h1, h2⟩ := Av.all2_3 h
    exact Av.law17n h0 h1 h2

theorem said : Rows.VaryBlanksSaid :=
  OpenClaim.holds_of_wide 17 Tryd.f17 rfl rfl rfl rfl rfl rfl rfl ⟨rfl, rfl, rfl, rfl, rfl⟩ rfl rfl rfl rfl rfl (by kernel_rfl) Tryd.func17 (by kernel_rfl)
    (of_decide_eq_true (by kernel_rfl)) (by unfold Func.isWrapper; first | (rw [if_pos (by decide +kernel)]; kernel_rfl) | (rw [if_neg (by decide +kernel)]; exact ⟨rfl, rfl⟩))
    (fun os started H enc _ => lifted os started H enc)

theorem proved : Rows.VaryBlanksCardSaid :=
  Claim7.holds_tied_plain_at .later [] [.data, .pinned] true Rows.varyBlanksCard.stood.harness false said (fun _ h => by cases h) (by kernel_rfl) (fun _ h => by cases h) varyBlanks_row_tie rfl ⟨rfl, rfl⟩ (by kernel_rfl) rfl
    (fun f fn hf hfn => by
      obtain rfl : f = 17 := Option.some.inj ((show Tryd.prog.funcNamed Rows.varyBlanksRow.func = some 17 by kernel_rfl).symm.trans hf) |>.symm
      obtain rfl : fn = Tryd.f17 := (Option.some.inj (Tryd.func17.symm.trans hfn)).symm
      exact ⟨by kernel_rfl, fun j t ht => by
        rw [Tryd.params17] at ht
        have hm : t ∈ [36, 61, 67] := by simpa using Array.mem_of_getElem? ht
        have hall : ([36, 61, 67].all fun u => !Tryd.prog.wantsStandIn u) = true := by kernel_rfl
        exact (show Tryd.prog.wantsStandIn t = false by simpa using List.all_eq_true.1 hall t hm)⟩)
    (by kernel_rfl)
end Go.Proofs.YtpffiikopcpgfaaDoor.varyBlanks
