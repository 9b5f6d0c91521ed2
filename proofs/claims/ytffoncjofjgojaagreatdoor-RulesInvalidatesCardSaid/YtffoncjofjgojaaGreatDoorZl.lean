/- Fields without those of some names, by slices.Clone and slices.DeleteFunc; what is kept of a response. -/
import Derived.Test.YtffoncjofjgojaaGreatDoorZk
set_option linter.all false
/-! part Z126 -/
namespace Go.Av
open Go.Proofs
set_option maxRecDepth 100000
def cellsF (L : List Fd) : List PC := L.flatMap fun f => [.str f.1, .str f.2]
@[simp] theorem cellsF_nil : cellsF [] = [] := rfl
@[simp] theorem pcs_fd (f : Fd) : pcs (fdP f) = [.str f.1, .str f.2] := rfl
@[simp] theorem pcCells_fd (f : Fd) : pcCells (fdP f) = [.p (.str f.1), .p (.str f.2)] := rfl
end Go.Av

/-! part Z127 -/
namespace Go.Av
open Go.Proofs
set_option maxRecDepth 100000
theorem has40 (x : Msg) (n : List UInt8) (hf : FdOk x.fs) (hn : n.length ≤ 1000000) : PureC Tryz.prog 40 [msP x, .str n] (.bool (hasN x.fs n)) := by
  refine pure_of_aw (ys := [_]) [] [] [] mixed Tryz.func40 rfl (by kernel_rfl) (by kernel_rfl) (by simp [Tryz.ntmps40]) rfl ?_
  simp
  refine pcall_of (rget108 x.fs n hf hn) (by simp) ?_
  unfold hasN
  have hl := getB_len x.fs n
  generalize getB x.fs n = L at *
  cases L with
  | nil => simp [Tryz.results40]
  | cons a L =>
    have d : (0 : Int) < (L.length : Int) + 1 := by omega
    simp [d, Tryz.results40]
theorem rsplit_get (fs : List Fd) (n : List UInt8) (hf : FdOk fs) : PureC Tryz.prog 38 [.sl ((getB fs n).map PC.str)] (.sl ((splitB (getB fs n)).map PC.str)) := by
  have hl := getB_len fs n
  have ht := getB_tot fs n
  have h1 := hf.1
  have h2 := hf.2.1
  exact rsplit49 _ (by omega) (by omega) (fun v hv => Nat.le_trans (totB_mem hv) (by omega))
end Go.Av

/-! part Z128 -/
namespace Go.Av
open Go.Proofs
set_option maxRecDepth 100000
end Go.Av

/-! part Z129 -/
namespace Go.Av
open Go.Proofs
end Go.Av
