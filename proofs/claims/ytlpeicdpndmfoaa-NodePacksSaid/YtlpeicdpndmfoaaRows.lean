/-
  No cell of these rows narrows 'for every input' (looked for: loops, veiled, ifaces, maps, wideKeys, modest, calm, conditions, laid).
  DERIVED. THE GIVEN ROWS OF THIS SEAT. 6 by the template 'for every input the law returns true; each argument reads behind the call as it read before'; 0 by the template 'total and deterministic' (their statements: YtlpeicdpndmfoaaTotals.lean).
  GIVEN WITH THE SEED: the statements are not yours to turn. If you find one false, say at which input.
  Laid BY PROGRAM, IN A SANDBOX (cutbox-rows.mjs): the forced cells as the released guide's own fill.sh prints them over the translation 9f09549d6b0ac78d… (all of the seat's roots in one cut). By AI agents, Wed Nov 11 2026. No macro, syntax, notation, axiom, sorry.
-/
import Derived.Test.YtlpeicdpndmfoaaChecked
import GoSem.Claim
import GoSem.ClaimJoined
import GoSem.ClaimMapViews
import Derived.JoinedTies
import Derived.KernelRfl
namespace Go.Proofs.Ytlpeicdpndmfoaa
/- THE CELL 'sum', in the pinned program and in every row, IS THE sha256 OF THE DUMP (.gsa) THAT YtlpeicdpndmfoaaProg.lean LOADS. Nothing in Lean hashes anything: it is a label: what it is worth is what the hold of that sum in a sandbox is worth. -/
noncomputable def Try.pinned : Pinned := { name := "ytlpeicdpndmfoaa", sum := "9f09549d6b0ac78d844bdde271a52a69893ad14f59c1d5e8d0d26bf4a59afcdf", checked := Try.checked }
namespace Rows
def none {H : Type} : Left H := { results := [], args := [] }

/-- 'icehouselaw17.NodeFinds': WHATEVER THE INPUT: true; the input reads as it did. -/
def nodeFindsSpec : ChangeSpec := { name := "nodeFinds", fn := fun _ => fun
  | [d1, d2] => { results := [.lit (.bool true)], args := [d1, d2] }
  | _ => none }
def nodeFindsRow : OpenClaim := { program := "ytlpeicdpndmfoaa", sum := "9f09549d6b0ac78d844bdde271a52a69893ad14f59c1d5e8d0d26bf4a59afcdf", func := "icehouse/icehouselaw17.NodeFinds", spec := "nodeFinds", inPlace := ["slices.overlaps[string]", "slices.overlaps[int]"], unfollowed := true, recurses := true, apart := false }
def NodeFindsSaid : Prop := nodeFindsRow.holds Try.pinned (OpenSpec.ofChange nodeFindsSpec)

/-- ITS FALSE NEIGHBOUR: 'it returns false'. Refute it at one input. -/
def nodeFindsWrong : ChangeSpec := { name := "nodeFinds", fn := fun _ => fun
  | [d1, d2] => { results := [.lit (.bool false)], args := [d1, d2] }
  | _ => none }
def NodeFindsWrongFalsely : Prop := nodeFindsRow.holds Try.pinned (OpenSpec.ofChange nodeFindsWrong)

/-- 'icehouselaw17.NodeTurns': WHATEVER THE INPUT: true; the input reads as it did. -/
def nodeTurnsSpec : ChangeSpec := { name := "nodeTurns", fn := fun _ => fun
  | [d1, d2] => { results := [.lit (.bool true)], args := [d1, d2] }
  | _ => none }
def nodeTurnsRow : OpenClaim := { program := "ytlpeicdpndmfoaa", sum := "9f09549d6b0ac78d844bdde271a52a69893ad14f59c1d5e8d0d26bf4a59afcdf", func := "icehouse/icehouselaw17.NodeTurns", spec := "nodeTurns", inPlace := ["slices.overlaps[string]", "slices.overlaps[int]"], unfollowed := true, recurses := true, apart := false }
def NodeTurnsSaid : Prop := nodeTurnsRow.holds Try.pinned (OpenSpec.ofChange nodeTurnsSpec)

/-- ITS FALSE NEIGHBOUR: 'it returns false'. Refute it at one input. -/
def nodeTurnsWrong : ChangeSpec := { name := "nodeTurns", fn := fun _ => fun
  | [d1, d2] => { results := [.lit (.bool false)], args := [d1, d2] }
  | _ => none }
def NodeTurnsWrongFalsely : Prop := nodeTurnsRow.holds Try.pinned (OpenSpec.ofChange nodeTurnsWrong)

/-- 'icehouselaw17.NodeOrders': WHATEVER THE INPUT: true; the input reads as it did. -/
def nodeOrdersSpec : ChangeSpec := { name := "nodeOrders", fn := fun _ => fun
  | [d1, d2, d3] => { results := [.lit (.bool true)], args := [d1, d2, d3] }
  | _ => none }
def nodeOrdersRow : OpenClaim := { program := "ytlpeicdpndmfoaa", sum := "9f09549d6b0ac78d844bdde271a52a69893ad14f59c1d5e8d0d26bf4a59afcdf", func := "icehouse/icehouselaw17.NodeOrders", spec := "nodeOrders", inPlace := ["slices.overlaps[string]", "slices.overlaps[int]"], unfollowed := true, recurses := true, apart := false }
def NodeOrdersSaid : Prop := nodeOrdersRow.holds Try.pinned (OpenSpec.ofChange nodeOrdersSpec)

/-- ITS FALSE NEIGHBOUR: 'it returns false'. Refute it at one input. -/
def nodeOrdersWrong : ChangeSpec := { name := "nodeOrders", fn := fun _ => fun
  | [d1, d2, d3] => { results := [.lit (.bool false)], args := [d1, d2, d3] }
  | _ => none }
def NodeOrdersWrongFalsely : Prop := nodeOrdersRow.holds Try.pinned (OpenSpec.ofChange nodeOrdersWrong)

/-- 'icehouselaw17.NodeHalves': WHATEVER THE INPUT: true; the input reads as it did. -/
def nodeHalvesSpec : ChangeSpec := { name := "nodeHalves", fn := fun _ => fun
  | [d1, d2, d3] => { results := [.lit (.bool true)], args := [d1, d2, d3] }
  | _ => none }
def nodeHalvesRow : OpenClaim := { program := "ytlpeicdpndmfoaa", sum := "9f09549d6b0ac78d844bdde271a52a69893ad14f59c1d5e8d0d26bf4a59afcdf", func := "icehouse/icehouselaw17.NodeHalves", spec := "nodeHalves", inPlace := ["slices.overlaps[string]", "slices.overlaps[int]"], unfollowed := true, recurses := true, apart := false }
def NodeHalvesSaid : Prop := nodeHalvesRow.holds Try.pinned (OpenSpec.ofChange nodeHalvesSpec)

/-- ITS FALSE NEIGHBOUR: 'it returns false'. Refute it at one input. -/
def nodeHalvesWrong : ChangeSpec := { name := "nodeHalves", fn := fun _ => fun
  | [d1, d2, d3] => { results := [.lit (.bool false)], args := [d1, d2, d3] }
  | _ => none }
def NodeHalvesWrongFalsely : Prop := nodeHalvesRow.holds Try.pinned (OpenSpec.ofChange nodeHalvesWrong)

/-- 'icehouselaw17.NodeApart': WHATEVER THE INPUT: true; the input reads as it did. -/
def nodeApartSpec : ChangeSpec := { name := "nodeApart", fn := fun _ => fun
  | [d1, d2] => { results := [.lit (.bool true)], args := [d1, d2] }
  | _ => none }
def nodeApartRow : OpenClaim := { program := "ytlpeicdpndmfoaa", sum := "9f09549d6b0ac78d844bdde271a52a69893ad14f59c1d5e8d0d26bf4a59afcdf", func := "icehouse/icehouselaw17.NodeApart", spec := "nodeApart", inPlace := ["slices.overlaps[string]", "slices.overlaps[int]"], unfollowed := true, recurses := true, apart := false }
def NodeApartSaid : Prop := nodeApartRow.holds Try.pinned (OpenSpec.ofChange nodeApartSpec)

/-- ITS FALSE NEIGHBOUR: 'it returns false'. Refute it at one input. -/
def nodeApartWrong : ChangeSpec := { name := "nodeApart", fn := fun _ => fun
  | [d1, d2] => { results := [.lit (.bool false)], args := [d1, d2] }
  | _ => none }
def NodeApartWrongFalsely : Prop := nodeApartRow.holds Try.pinned (OpenSpec.ofChange nodeApartWrong)

/-- 'icehouselaw17.NodePacks': WHATEVER THE INPUT: true; the input reads as it did. -/
def nodePacksSpec : ChangeSpec := { name := "nodePacks", fn := fun _ => fun
  | [d1, d2] => { results := [.lit (.bool true)], args := [d1, d2] }
  | _ => none }
def nodePacksRow : OpenClaim := { program := "ytlpeicdpndmfoaa", sum := "9f09549d6b0ac78d844bdde271a52a69893ad14f59c1d5e8d0d26bf4a59afcdf", func := "icehouse/icehouselaw17.NodePacks", spec := "nodePacks", inPlace := ["slices.overlaps[string]", "slices.overlaps[int]"], unfollowed := true, recurses := true, apart := false }
def NodePacksSaid : Prop := nodePacksRow.holds Try.pinned (OpenSpec.ofChange nodePacksSpec)

/-- ITS FALSE NEIGHBOUR: 'it returns false'. Refute it at one input. -/
def nodePacksWrong : ChangeSpec := { name := "nodePacks", fn := fun _ => fun
  | [d1, d2] => { results := [.lit (.bool false)], args := [d1, d2] }
  | _ => none }
def NodePacksWrongFalsely : Prop := nodePacksRow.holds Try.pinned (OpenSpec.ofChange nodePacksWrong)

/- THE SECOND FORM. 'bulk': how many values and letters a reading holds, each counted each time it is reached (what is shared counts as often as it is met; a slice's spare places count too). A statement '..UptoSaid' is the law's where the arguments, and the package variables that the reading takes, are together of bulk at most 1048576: NARROWER than '..Said'. Prove '..Said' where nothing that the law and all that it calls make is longer than what came in: it says more and counts as full. Else prove '..UptoSaid'. A law counts once. -/
mutual
def uptoBulk {H : Type} : DataW H → Nat
  | .lit (.string bytes) => bytes.length + 1
  | .lit _ => 1
  | .nil => 1
  | .ptr d => uptoBulk d + 1
  | .slice elems spare => uptoBulkAll elems + uptoBulkAll spare + 1
  | .agg parts => uptoBulkAll parts + 1
  | .iface _ d => uptoBulk d + 1
  | .map entries => uptoBulkEntries entries + 1
  | .held _ => 1
def uptoBulkAll {H : Type} : List (DataW H) → Nat
  | [] => 0
  | d :: r => uptoBulk d + uptoBulkAll r
def uptoBulkEntries {H : Type} : List (Lit × DataW H) → Nat
  | [] => 0
  | x :: r => uptoBulkEntry x + uptoBulkEntries r
def uptoBulkEntry {H : Type} : Lit × DataW H → Nat
  | (.string bytes, d) => bytes.length + uptoBulk d + 1
  | (_, d) => uptoBulk d + 1
 end
def uptoSmall : (H : Type) → List (DataW H) → Bool := fun _ ds => decide (uptoBulkAll ds ≤ 1048576)
def OpenSpec.upto (s : _root_.Go.ChangeSpec) : _root_.Go.OpenSpec := { _root_.Go.OpenSpec.ofChange s with cond := some uptoSmall }

/-- 'icehouselaw17.NodeFinds', WHERE WHAT IT READS IS OF BULK AT MOST 1048576: true; the input reads as it did. -/
def nodeFindsUptoRow : OpenClaim := { program := "ytlpeicdpndmfoaa", sum := "9f09549d6b0ac78d844bdde271a52a69893ad14f59c1d5e8d0d26bf4a59afcdf", func := "icehouse/icehouselaw17.NodeFinds", spec := "nodeFinds", inPlace := ["slices.overlaps[string]", "slices.overlaps[int]"], unfollowed := true, recurses := true, apart := false, narrowed := true }
def NodeFindsUptoSaid : Prop := nodeFindsUptoRow.holds Try.pinned (OpenSpec.upto nodeFindsSpec)

/-- 'icehouselaw17.NodeTurns', WHERE WHAT IT READS IS OF BULK AT MOST 1048576: true; the input reads as it did. -/
def nodeTurnsUptoRow : OpenClaim := { program := "ytlpeicdpndmfoaa", sum := "9f09549d6b0ac78d844bdde271a52a69893ad14f59c1d5e8d0d26bf4a59afcdf", func := "icehouse/icehouselaw17.NodeTurns", spec := "nodeTurns", inPlace := ["slices.overlaps[string]", "slices.overlaps[int]"], unfollowed := true, recurses := true, apart := false, narrowed := true }
def NodeTurnsUptoSaid : Prop := nodeTurnsUptoRow.holds Try.pinned (OpenSpec.upto nodeTurnsSpec)

/-- 'icehouselaw17.NodeOrders', WHERE WHAT IT READS IS OF BULK AT MOST 1048576: true; the input reads as it did. -/
def nodeOrdersUptoRow : OpenClaim := { program := "ytlpeicdpndmfoaa", sum := "9f09549d6b0ac78d844bdde271a52a69893ad14f59c1d5e8d0d26bf4a59afcdf", func := "icehouse/icehouselaw17.NodeOrders", spec := "nodeOrders", inPlace := ["slices.overlaps[string]", "slices.overlaps[int]"], unfollowed := true, recurses := true, apart := false, narrowed := true }
def NodeOrdersUptoSaid : Prop := nodeOrdersUptoRow.holds Try.pinned (OpenSpec.upto nodeOrdersSpec)

/-- 'icehouselaw17.NodeHalves', WHERE WHAT IT READS IS OF BULK AT MOST 1048576: true; the input reads as it did. -/
def nodeHalvesUptoRow : OpenClaim := { program := "ytlpeicdpndmfoaa", sum := "9f09549d6b0ac78d844bdde271a52a69893ad14f59c1d5e8d0d26bf4a59afcdf", func := "icehouse/icehouselaw17.NodeHalves", spec := "nodeHalves", inPlace := ["slices.overlaps[string]", "slices.overlaps[int]"], unfollowed := true, recurses := true, apart := false, narrowed := true }
def NodeHalvesUptoSaid : Prop := nodeHalvesUptoRow.holds Try.pinned (OpenSpec.upto nodeHalvesSpec)

/-- 'icehouselaw17.NodeApart', WHERE WHAT IT READS IS OF BULK AT MOST 1048576: true; the input reads as it did. -/
def nodeApartUptoRow : OpenClaim := { program := "ytlpeicdpndmfoaa", sum := "9f09549d6b0ac78d844bdde271a52a69893ad14f59c1d5e8d0d26bf4a59afcdf", func := "icehouse/icehouselaw17.NodeApart", spec := "nodeApart", inPlace := ["slices.overlaps[string]", "slices.overlaps[int]"], unfollowed := true, recurses := true, apart := false, narrowed := true }
def NodeApartUptoSaid : Prop := nodeApartUptoRow.holds Try.pinned (OpenSpec.upto nodeApartSpec)

/-- 'icehouselaw17.NodePacks', WHERE WHAT IT READS IS OF BULK AT MOST 1048576: true; the input reads as it did. -/
def nodePacksUptoRow : OpenClaim := { program := "ytlpeicdpndmfoaa", sum := "9f09549d6b0ac78d844bdde271a52a69893ad14f59c1d5e8d0d26bf4a59afcdf", func := "icehouse/icehouselaw17.NodePacks", spec := "nodePacks", inPlace := ["slices.overlaps[string]", "slices.overlaps[int]"], unfollowed := true, recurses := true, apart := false, narrowed := true }
def NodePacksUptoSaid : Prop := nodePacksUptoRow.holds Try.pinned (OpenSpec.upto nodePacksSpec)

end Rows
end Go.Proofs.Ytlpeicdpndmfoaa
