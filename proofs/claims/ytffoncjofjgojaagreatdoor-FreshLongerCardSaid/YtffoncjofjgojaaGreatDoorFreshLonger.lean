/- FreshLonger answers true whatever the input, and leaves it as it was; its card is tied to the program's text: no condition. -/
import Derived.Test.YtffoncjofjgojaaGreatDoorZf
import Derived.Test.YtffoncjofjgojaaGreatDoorTie
import Derived.Test.YtffoncjofjgojaaGreatDoorCards
import Derived.ProofKit
import Derived.OpenShut
import Derived.LaidMore
import Derived.Lay
import Derived.SevenTiedAt
import Derived.Stop.Joined
set_option linter.all false
/-! part Z95 -/
namespace Go.Proofs.YtffoncjofjgojaaGreatDoor.freshLonger
open Go.ChangeShapes Go.WideShapes Go.ChangeAt Go.RowKit

theorem own : ownKnob Tryz.prog.godebug = none := by kernel_rfl

set_option maxRecDepth 100000 in
theorem lifted (os : Os) (started : os.Started) (H : Type) (enc : TypeId × Value → H) :
    ReturnsInHanded {} Tryz.checked os 4 .any (fun w args => (Rows.freshLongerSpec.pre enc Tryz.prog Tryz.f4 Rows.freshLongerRow.domain false w args ∧ laidMetH Tryz.prog Rows.freshLongerRow.laid w) ∧ sizedMet enc Tryz.prog Tryz.f4 (OpenSpec.ofChange Rows.freshLongerSpec) false w args)
      (Rows.freshLongerSpec.post enc Tryz.prog Tryz.f4 false true false false) := by
  refine returnsInHanded_of_change_and (C := Tryz.checked) (X := fun w _ => laidMetH Tryz.prog Rows.freshLongerRow.laid w) (fun _ _ _ hh h => h.of_heap hh) own started (by kernel_rfl) Tryz.func4
    (ChangeSpec.witness_shaped (enc := enc) (C := Tryz.checked) (os := os) (X := fun w _ => laidMetH Tryz.prog Rows.freshLongerRow.laid w) false (World.laidAll Tryz.prog os Rows.freshLongerRow.laid) #[.int .i64 0, .int .i64 0, .agg #[.int .i64 0, .int .i64 0]] 8 (World.laidAll_os _ _ _)
      (World.shaped_of_ZipB (by kernel_rfl) (by kernel_rfl)) (by kernel_rfl) (by kernel_rfl) (by kernel_rfl)
      (by rw [MakeChecks.laidMetH_plain _ _ _ (by kernel_rfl)]; exact laidMet_laidAll _ (by kernel_rfl) (by kernel_rfl))) ?_
  intro W base args ds gs before hval hW _ _ _ _
  refine Av.law_contract (P := Tryz.prog) (Ss := [Av.intS,Av.intS,Av.twoS]) (tr := 4) Av.laidO (by kernel_rfl) (by kernel_rfl) Tryz.underlying4 rfl (by rw [Tryz.params4]; exact ⟨Av.rd3, Av.rd3, Av.rd30, trivial⟩) ?_ ?_ H enc W base args ds gs before hval hW
  · intro H ds h
    rw [Tryz.params4] at h
    match ds, h with
    | [d0, d1, d2], _ => rfl
  · intro xs h
    obtain ⟨x0, x1, x2, rfl, h0, h1, h2⟩ := Av.all2_3 h
    exact Av.law4n h0 h1 h2

theorem said : Rows.FreshLongerSaid :=
  OpenClaim.holds_of_wide 4 Tryz.f4 rfl rfl rfl rfl rfl rfl rfl ⟨rfl, rfl, rfl, rfl, rfl⟩ rfl rfl rfl rfl rfl (by kernel_rfl) Tryz.func4 (by kernel_rfl)
    (of_decide_eq_true (by kernel_rfl)) (by unfold Func.isWrapper; first | (rw [if_pos (by decide +kernel)]; kernel_rfl) | (rw [if_neg (by decide +kernel)]; exact ⟨rfl, rfl⟩))
    (fun os started H enc _ => lifted os started H enc)

theorem proved : Rows.FreshLongerCardSaid :=
  Claim7.holds_tied_plain_at .later [] [.data, .pinned] true Rows.freshLongerCard.stood.harness false said (fun _ h => by cases h) (by kernel_rfl) (fun _ h => by cases h) freshLonger_row_tie rfl ⟨rfl, rfl⟩ (by kernel_rfl) rfl
    (fun f fn hf hfn => by
      obtain rfl : f = 4 := Option.some.inj ((show Tryz.prog.funcNamed Rows.freshLongerRow.func = some 4 by kernel_rfl).symm.trans hf) |>.symm
      obtain rfl : fn = Tryz.f4 := (Option.some.inj (Tryz.func4.symm.trans hfn)).symm
      exact ⟨by kernel_rfl, fun j t ht => by
        rw [Tryz.params4] at ht
        have hm : t ∈ [3, 3, 30] := by simpa using Array.mem_of_getElem? ht
        have hall : ([3, 3, 30].all fun u => !Tryz.prog.wantsStandIn u) = true := by kernel_rfl
        exact (show Tryz.prog.wantsStandIn t = false by simpa using List.all_eq_true.1 hall t hm)⟩)
    (by kernel_rfl)
end Go.Proofs.YtffoncjofjgojaaGreatDoor.freshLonger
