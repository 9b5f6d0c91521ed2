/- How numbers are read. -/
import Derived.Test.YtffoncjofjgojaaGreatDoorZe
set_option linter.all false
/-! part Z93 -/
namespace Go.Av
open Go.Proofs
set_option maxRecDepth 100000
theorem dec_len : ∀ (k n : Nat), n < 10 ^ (k + 1) → (dec n).length ≤ k + 1
  | 0, n, h => by rw [dec_lt (by simpa using h)]; simp
  | k + 1, n, h => by
    by_cases c : n < 10
    · rw [dec_lt c]; simp
    · rw [dec_ge c, List.length_append]
      have := dec_len k (n / 10) (by rw [Nat.pow_succ] at h; omega)
      simp; omega
end Go.Av

/-! part Z94 -/
namespace Go.Av
open Go.Proofs

def i64b (v : Int) : Prop := -9223372036854775808 ≤ v ∧ v ≤ 9223372036854775807
theorem laidO : laidOutB Tryz.prog = true := by kernel_rfl
theorem cellsT3 : Tryz.prog.cellsOf 3 = 1 := by kernel_rfl
theorem bounds_i64 {n : Int} (h : (Lit.int .i64 n).wf = true) : i64b n := by
  have a : IntKind.i64.min = -9223372036854775808 := rfl
  have b : IntKind.i64.max = 9223372036854775807 := rfl
  simp only [Lit.wf, Bool.and_eq_true, decide_eq_true_eq, a, b] at h
  exact h
def intS (x : PC) : Prop := ∃ n : Int, x = .int n ∧ i64b n
theorem rdI : RdU Tryz.prog 3 intS := (rd_int Tryz.underlying3).c.mono fun x ⟨n, h, hw⟩ => ⟨n, h, bounds_i64 hw⟩
end Go.Av
