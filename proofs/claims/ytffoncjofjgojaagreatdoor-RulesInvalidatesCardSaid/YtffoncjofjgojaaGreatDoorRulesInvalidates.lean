/- RulesInvalidates answers true whatever the input, and leaves it as it was; its card is tied to the program's text: no condition. -/
import Derived.Test.YtffoncjofjgojaaGreatDoorZt
import Derived.Test.YtffoncjofjgojaaGreatDoorRulesInvalidatesF
import Derived.Test.YtffoncjofjgojaaGreatDoorTie
import Derived.Test.YtffoncjofjgojaaGreatDoorCards
import Derived.ProofKit
import Derived.OpenShut
import Derived.LaidMore
import Derived.Lay
import Derived.SevenTiedAt
import Derived.Stop.Joined
set_option linter.all false
/-! part Z189 -/
namespace Go.Proofs.YtffoncjofjgojaaGreatDoor.rulesInvalidates
open Go.ChangeShapes Go.WideShapes Go.ChangeAt Go.RowKit

theorem own : ownKnob Tryz.prog.godebug = none := by kernel_rfl

set_option maxRecDepth 100000 in
theorem lifted (os : Os) (started : os.Started) (H : Type) (enc : TypeId × Value → H) :
    ReturnsInHanded {} Tryz.checked os 8 .any (fun w args => (Rows.rulesInvalidatesSpec.pre enc Tryz.prog Tryz.f8 Rows.rulesInvalidatesRow.domain false w args ∧ laidMetH Tryz.prog Rows.rulesInvalidatesRow.laid w) ∧ sizedMet enc Tryz.prog Tryz.f8 (OpenSpec.ofChange Rows.rulesInvalidatesSpec) false w args)
      (Rows.rulesInvalidatesSpec.post enc Tryz.prog Tryz.f8 false true false false) := by
  refine Av.handed_shaped (C := Tryz.checked) (X := fun w _ => laidMetH Tryz.prog Rows.rulesInvalidatesRow.laid w) (fun _ _ _ hh h => h.of_heap hh) own started (by kernel_rfl) Tryz.func8
    (ChangeSpec.witness_shaped (enc := enc) (C := Tryz.checked) (os := os) (X := fun w _ => laidMetH Tryz.prog Rows.rulesInvalidatesRow.laid w) false (World.laidAll Tryz.prog os Rows.rulesInvalidatesRow.laid) #[.agg #[.string ⟨#[]⟩, .int .i64 0, .string ⟨#[]⟩], .agg #[.string ⟨#[]⟩, .string ⟨#[]⟩, .int .i64 0, .string ⟨#[]⟩, .int .i64 0, .slice none 0 0, .slice none 0 0], .agg #[.string ⟨#[]⟩, .string ⟨#[]⟩, .int .i64 0, .string ⟨#[]⟩, .int .i64 0, .slice none 0 0, .slice none 0 0]] 8 (World.laidAll_os _ _ _)
      (World.shaped_of_ZipB (by kernel_rfl) (by kernel_rfl)) (by kernel_rfl) (by kernel_rfl) (by kernel_rfl)
      (by rw [MakeChecks.laidMetH_plain _ _ _ (by kernel_rfl)]; exact laidMet_laidAll _ (by kernel_rfl) (by kernel_rfl))) ?_
  intro W base args ds gs before hsh hval hW
  refine Av.law_contract (P := Tryz.prog) (Ss := [Av.uriS,Av.msgS,Av.msgS]) (tr := 4) Av.laidO (by kernel_rfl) (by kernel_rfl) Tryz.underlying4 rfl (by rw [Tryz.params8]; exact ⟨Av.rd54, Av.rd27, Av.rd27, trivial⟩) ?_ ?_ H enc W base args ds gs before hval hW (Av.gok hsh)
  · intro H ds h
    rw [Tryz.params8] at h
    match ds, h with
    | [d0, d1, d2], _ => rfl
  · intro xs h
    obtain ⟨x0, x1, x2, rfl, h0, h1, h2⟩ := Av.all2_3 h
    exact Av.law8n h0 h1 h2

theorem said : Rows.RulesInvalidatesSaid :=
  OpenClaim.holds_of_wide 8 Tryz.f8 rfl rfl rfl rfl rfl rfl rfl ⟨rfl, rfl, rfl, rfl, rfl⟩ rfl rfl rfl rfl rfl (by kernel_rfl) Tryz.func8 facts
    (of_decide_eq_true (by kernel_rfl)) (by unfold Func.isWrapper; first | (rw [if_pos (by decide +kernel)]; kernel_rfl) | (rw [if_neg (by decide +kernel)]; exact ⟨rfl, rfl⟩))
    (fun os started H enc _ => lifted os started H enc)

theorem proved : Rows.RulesInvalidatesCardSaid :=
  Claim7.holds_tied_plain_at .later [] [.data, .pinned] true Rows.rulesInvalidatesCard.stood.harness false said (fun _ h => by cases h) (by kernel_rfl) (fun _ h => by cases h) rulesInvalidates_row_tie rfl ⟨rfl, rfl⟩ (by kernel_rfl) rfl
    (fun f fn hf hfn => by
      obtain rfl : f = 8 := Option.some.inj ((show Tryz.prog.funcNamed Rows.rulesInvalidatesRow.func = some 8 by kernel_rfl).symm.trans hf) |>.symm
      obtain rfl : fn = Tryz.f8 := (Option.some.inj (Tryz.func8.symm.trans hfn)).symm
      exact ⟨by kernel_rfl, fun j t ht => by
        rw [Tryz.params8] at ht
        have hm : t ∈ [54, 27, 27] := by simpa using Array.mem_of_getElem? ht
        have hall : ([54, 27, 27].all fun u => !Tryz.prog.wantsStandIn u) = true := by kernel_rfl
        exact (show Tryz.prog.wantsStandIn t = false by simpa using List.all_eq_true.1 hall t hm)⟩)
    (by kernel_rfl)
end Go.Proofs.YtffoncjofjgojaaGreatDoor.rulesInvalidates
