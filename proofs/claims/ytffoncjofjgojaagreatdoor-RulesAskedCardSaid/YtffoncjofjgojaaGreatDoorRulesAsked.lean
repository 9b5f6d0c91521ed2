/- RulesAsked answers true whatever the input, and leaves it as it was; its card is tied to the program's text: no condition. -/
import Derived.Test.YtffoncjofjgojaaGreatDoorZn
import Derived.Test.YtffoncjofjgojaaGreatDoorTie
import Derived.Test.YtffoncjofjgojaaGreatDoorCards
import Derived.ProofKit
import Derived.OpenShut
import Derived.LaidMore
import Derived.Lay
import Derived.SevenTiedAt
import Derived.Stop.Joined
set_option linter.all false
/-! part Z140 -/
namespace Go.Proofs.YtffoncjofjgojaaGreatDoor.rulesAsked
open Go.ChangeShapes Go.WideShapes Go.ChangeAt Go.RowKit

theorem own : ownKnob Tryz.prog.godebug = none := by kernel_rfl

set_option maxRecDepth 100000 in
theorem lifted (os : Os) (started : os.Started) (H : Type) (enc : TypeId × Value → H) :
    ReturnsInHanded {} Tryz.checked os 12 .any (fun w args => (Rows.rulesAskedSpec.pre enc Tryz.prog Tryz.f12 Rows.rulesAskedRow.domain false w args ∧ laidMetH Tryz.prog Rows.rulesAskedRow.laid w) ∧ sizedMet enc Tryz.prog Tryz.f12 (OpenSpec.ofChange Rows.rulesAskedSpec) false w args)
      (Rows.rulesAskedSpec.post enc Tryz.prog Tryz.f12 false true false false) := by
  refine Av.handed_shaped (C := Tryz.checked) (X := fun w _ => laidMetH Tryz.prog Rows.rulesAskedRow.laid w) (fun _ _ _ hh h => h.of_heap hh) own started (by kernel_rfl) Tryz.func12
    (ChangeSpec.witness_shaped (enc := enc) (C := Tryz.checked) (os := os) (X := fun w _ => laidMetH Tryz.prog Rows.rulesAskedRow.laid w) false (World.laidAll Tryz.prog os Rows.rulesAskedRow.laid) #[.agg #[.string ⟨#[]⟩, .string ⟨#[]⟩, .int .i64 0, .string ⟨#[]⟩, .int .i64 0, .slice none 0 0, .slice none 0 0]] 8 (World.laidAll_os _ _ _)
      (World.shaped_of_ZipB (by kernel_rfl) (by kernel_rfl)) (by kernel_rfl) (by kernel_rfl) (by kernel_rfl)
      (by rw [MakeChecks.laidMetH_plain _ _ _ (by kernel_rfl)]; exact laidMet_laidAll _ (by kernel_rfl) (by kernel_rfl))) ?_
  intro W base args ds gs before hsh hval hW
  refine Av.law_contract (P := Tryz.prog) (Ss := [Av.msgS]) (tr := 4) Av.laidO (by kernel_rfl) (by kernel_rfl) Tryz.underlying4 rfl (by rw [Tryz.params12]; exact ⟨Av.rd27, trivial⟩) ?_ ?_ H enc W base args ds gs before hval hW (Av.gok hsh)
  · intro H ds h
    rw [Tryz.params12] at h
    match ds, h with
    | [d0], _ => rfl
  · intro xs h
    obtain ⟨x0, rfl, h0⟩ := Av.all2_1 h
    exact Av.law12n h0

theorem said : Rows.RulesAskedSaid :=
  OpenClaim.holds_of_wide 12 Tryz.f12 rfl rfl rfl rfl rfl rfl rfl ⟨rfl, rfl, rfl, rfl, rfl⟩ rfl rfl rfl rfl rfl (by kernel_rfl) Tryz.func12 (by kernel_rfl)
    (of_decide_eq_true (by kernel_rfl)) (by unfold Func.isWrapper; first | (rw [if_pos (by decide +kernel)]; kernel_rfl) | (rw [if_neg (by decide +kernel)]; exact ⟨rfl, rfl⟩))
    (fun os started H enc _ => lifted os started H enc)

theorem proved : Rows.RulesAskedCardSaid :=
  Claim7.holds_tied_plain_at .later [] [.data, .pinned] true Rows.rulesAskedCard.stood.harness false said (fun _ h => by cases h) (by kernel_rfl) (fun _ h => by cases h) rulesAsked_row_tie rfl ⟨rfl, rfl⟩ (by kernel_rfl) rfl
    (fun f fn hf hfn => by
      obtain rfl : f = 12 := Option.some.inj ((show Tryz.prog.funcNamed Rows.rulesAskedRow.func = some 12 by kernel_rfl).symm.trans hf) |>.symm
      obtain rfl : fn = Tryz.f12 := (Option.some.inj (Tryz.func12.symm.trans hfn)).symm
      exact ⟨by kernel_rfl, fun j t ht => by
        rw [Tryz.params12] at ht
        have hm : t ∈ [27] := by simpa using Array.mem_of_getElem? ht
        have hall : ([27].all fun u => !Tryz.prog.wantsStandIn u) = true := by kernel_rfl
        exact (show Tryz.prog.wantsStandIn t = false by simpa using List.all_eq_true.1 hall t hm)⟩)
    (by kernel_rfl)
end Go.Proofs.YtffoncjofjgojaaGreatDoor.rulesAsked
