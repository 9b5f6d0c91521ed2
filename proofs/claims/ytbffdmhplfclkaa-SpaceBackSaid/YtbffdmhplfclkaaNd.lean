/- How rows are read; SpaceFirst computes true. -/
import Derived.Test.YtbffdmhplfclkaaNc
set_option linter.all false
/-! part P16r -/
namespace Go.Av
open Go.Proofs

theorem nn_val (v : Int) (q : Nat) (hq : 1 ≤ q) (hq2 : q ≤ 50) : ∃ k : Nat, k < q ∧ IntKind.i64.wrap (v.tmod q + q) = v.tmod q + q ∧ (v.tmod q + q).tmod q = k := by
  have h1 : v.tmod q < q := Int.tmod_lt_of_pos v (by omega)
  have h2 : -(q : Int) < v.tmod q := by
    have := Int.tmod_lt_of_pos (-v) (b := (q : Int)) (by omega)
    rw [Int.neg_tmod] at this; omega
  refine ⟨((v.tmod q + q).tmod q).toNat, ?_, wrap64_id (by omega) (by omega), ?_⟩
  · have h3 : (v.tmod q + q).tmod q = (v.tmod q + q) % q := Int.tmod_eq_emod_of_nonneg (by omega)
    have h4 := Int.emod_lt_of_pos (v.tmod q + q) (b := (q : Int)) (by omega)
    have h5 := Int.emod_nonneg (v.tmod q + q) (b := (q : Int)) (by omega)
    omega
  · have h3 : (v.tmod q + q).tmod q = (v.tmod q + q) % q := Int.tmod_eq_emod_of_nonneg (by omega)
    have h5 := Int.emod_nonneg (v.tmod q + q) (b := (q : Int)) (by omega)
    omega
theorem szL_fst {next : Nat} (h : next ≤ 200) : szL (fstF next) = 200 - next := by
  unfold fstF; split <;> simp [szL]; omega

theorem fst_take {next q : Nat} (h1 : 1 ≤ q) (h2 : next + q ≤ 200) : GenC Try.prog 9 [.obj 1 0, .p (.int q)] ⟨mapB 1 0 2 3 200 (fstF next) (fstR next) [], [], 4⟩ (.agg true [.p (extP (next, q)), .p (.bool true)])
    ⟨mapB 1 4 5 3 200 (fstF (next + q)) (fstR (next + q)) [], [], 6⟩ := by
  have e0 : fstF next = [(next, 200 - next)] := by unfold fstF; rw [if_pos (by omega)]
  have ok := fstF_ok (next := next)
  rw [e0] at ok
  have := take9s 1 0 2 3 4 200 (by constructor <;> omega) [(next, 200 - next)] (fstR next) [] q 0 (ok.nrm (by omega)) ((fstR_ok (by omega)).nrm (by omega)) h1 (by simp) (by simp; omega) (by omega)
  obtain ⟨s1, s2⟩ := fst_step h1 h2
  rw [e0] at s1
  simp only [List.getElem_cons_zero] at this
  rw [s1, s2] at this
  rw [e0]; exact this
theorem fst_not {next q : Nat} (h2 : 200 < next + q) : GenC Try.prog 9 [.obj 1 0, .p (.int q)] ⟨mapB 1 0 2 3 200 (fstF next) (fstR next) [], [], 4⟩ (.agg true [.p (extP (0, 0)), .p (.bool false)])
    ⟨mapB 1 0 2 3 200 (fstF next) (fstR next) [], [], 4⟩ :=
  take9n 1 0 2 3 4 200 (by constructor <;> omega) (fstF next) (fstR next) [] q (fstF_ok.nrm (by omega)) (.inr (by
    unfold fstF; split
    · intro e he; simp at he; subst he; simp only; omega
    · simp))

set_option maxHeartbeats 4000000 in
set_option maxRecDepth 100000 in
theorem law3 (ns : List Int) : PureC Try.prog 3 [.sl (ns.map PC.int)] (.bool true) := by
  refine pure_of_aw (ys := [_]) [] [] [] mixed Try.func3 rfl (by kernel_rfl) (by kernel_rfl) (by simp [Try.ntmps3]) rfl ?_
  simp
  refine pcall_of awake7 (by simp) ?_
  by_cases c : 40 < ns.length
  · have c' : decide ((40 : Int) < ns.length) = true := by simp; omega
    simp [c']
    refine pcall_of awake7 (by simp) ?_
    simp [Try.results3]
  · have c' : decide ((40 : Int) < ns.length) = false := by simp; omega
    simp [c']
    refine gcall_of0 (new8 0 200 (by omega) (by omega)) (by simp) (by simp [sub1]) trivial rfl ?_
    simp
    refine aw_loop (fun x : Nat × Nat => x.1 ≤ ns.length ∧ x.2 ≤ 200) (fun x => [(0, .p (.sl (ns.map PC.int))), (3, .obj 1 0), (5, .p (.int x.2)), (6, .p (.int x.1))])
      (fun x => ⟨mapB 1 0 2 3 200 (fstF x.2) (fstR x.2) [], [], 4⟩) (fun x => ns.length - x.1) (0, 0) (by simp) _ (AS.le_refl _ _) (leN_id (by simp [mapB, mapO, mapX, fstF, fstR])) ?_
    rintro ⟨i, next⟩ ⟨h1, h2⟩
    simp only at h1 h2
    by_cases c1 : i < ns.length
    · obtain ⟨k, k1, k2, k3⟩ := nn_val ns[i] 20 (by omega) (by omega)
      have k4 : IntKind.i64.wrap (1 + (k : Int)) = ((k + 1 : Nat) : Int) := by rw [wrap64_id (by omega) (by omega)]; omega
      have k2 : IntKind.i64.wrap (ns[i].tmod 20 + 20) = ns[i].tmod 20 + 20 := k2
      have k3 : (ns[i].tmod 20 + 20).tmod 20 = (k : Int) := k3
      have k5 : IntKind.i64.wrap ((next : Int) + ((k : Int) + 1)) = ((next + (k + 1) : Nat) : Int) := by rw [wrap64_id (by omega) (by omega)]; omega
      simp [c1, k2, k3, k4]
      by_cases c2 : next + (k + 1) ≤ 200
      · have d1 : decide ((next : Int) + ((k : Int) + 1) ≤ 200) = true := by simp; omega
        refine gcall_of0 (fst_take (next := next) (q := k + 1) (by omega) c2) (by simp) (by simp [sub1, mapB, mapO, mapX]) trivial rfl ?_
        simp at k5
        simp [mapB, mapO, mapX, k5, d1]
        refine ⟨i + 1, next + (k + 1), ⟨by omega, by omega⟩, by omega, leN_of [(0, 4), (2, 5)] ?_⟩
        simp [mapB, mapO, mapX, wrap64_id (n := (i : Int) + 1) (by omega) (by omega)]
      · have d1 : decide ((next : Int) + ((k : Int) + 1) ≤ 200) = false := by simp; omega
        refine gcall_of0 (fst_not (next := next) (q := k + 1) (by omega)) (by simp) (by simp [sub1, mapB, mapO, mapX]) trivial rfl ?_
        simp at k5
        simp [mapB, mapO, mapX, k5, d1]
        refine ⟨i + 1, next, ⟨by omega, by omega⟩, by omega, leN_id ?_⟩
        simp [mapB, mapO, mapX, wrap64_id (n := (i : Int) + 1) (by omega) (by omega)]
    · have e : i = ns.length := by omega
      subst e
      simp
      refine gcall_of0 (free10 1 0 2 3 4 200 (by constructor <;> omega) (fstF next) (fstR next) [] (fstF_ok.nrm (by omega))) (by simp) (by simp [sub1, mapB, mapO, mapX]) trivial rfl ?_
      have w : IntKind.i64.wrap (200 - (next : Int)) = ((200 - next : Nat) : Int) := by rw [wrap64_id (by omega) (by omega)]; omega
      simp [Try.results3, szL_fst h2, w]
end Go.Av

/-! part P16s -/
namespace Go.Av
open Go.Proofs
theorem laidO : laidOutB Try.prog = true := by kernel_rfl
theorem cellsT3 : Try.prog.cellsOf 3 = 1 := by kernel_rfl
def intS (x : PC) : Prop := ∃ n : Int, x = .int n ∧ -9223372036854775808 ≤ n ∧ n ≤ 9223372036854775807
def intsS (x : PC) : Prop := ∃ vs : List Int, x = .sl (vs.map PC.int)
def boolS (x : PC) : Prop := ∃ b : Bool, x = .bool b
theorem ints_of {xs : List PC} (h : ∀ x ∈ xs, ∃ n : Int, x = .int n ∧ (Lit.int .i64 n).wf = true) : ∃ ks : List Int, xs = ks.map PC.int := by
  induction xs with
  | nil => exact ⟨[], rfl⟩
  | cons x xs ih =>
    obtain ⟨ks, rfl⟩ := ih fun y hy => h y (by simp [hy])
    obtain ⟨s, rfl, _⟩ := h x (by simp)
    exact ⟨s :: ks, rfl⟩
theorem bounds_i64 {n : Int} (h : (Lit.int .i64 n).wf = true) : -9223372036854775808 ≤ n ∧ n ≤ 9223372036854775807 := by
  have a : IntKind.i64.min = -9223372036854775808 := rfl
  have b : IntKind.i64.max = 9223372036854775807 := rfl
  simp only [Lit.wf, Bool.and_eq_true, decide_eq_true_eq, a, b] at h
  exact h
theorem rd3 : RdV Try.prog 3 intS :=
  rv_one (by rw [Try.underlying3]; simp) (by rw [Try.underlying3]; simp) ((rd_int Try.underlying3).c.mono fun x ⟨n, h, hw⟩ => ⟨n, h, bounds_i64 hw⟩) (by rintro x ⟨s, rfl, _⟩ b xs h; cases h)
theorem rd4 : RdV Try.prog 4 boolS :=
  rv_one (by rw [Try.underlying4]; simp) (by rw [Try.underlying4]; simp) ((rd_bool Try.underlying4).c.mono fun x h => h) (by rintro x ⟨s, rfl⟩ b xs h; cases h)
theorem rd22 : RdV Try.prog 22 intsS :=
  rv_one (by rw [Try.underlying22]; simp) (by rw [Try.underlying22]; simp) ((rd_slice Try.underlying22 (by rw [cellsT3]; omega) (rd_int Try.underlying3)).mono fun x ⟨xs, h, _, hv⟩ => by
    obtain ⟨vs, rfl⟩ := ints_of hv; exact ⟨vs, h⟩) (by rintro x ⟨s, rfl⟩ b xs h; cases h)
theorem law3n {x : PC} (hx : intsS x) : PureC Try.prog 3 [x] (.bool true) := by
  obtain ⟨vs, rfl⟩ := hx
  exact law3 vs
end Go.Av
