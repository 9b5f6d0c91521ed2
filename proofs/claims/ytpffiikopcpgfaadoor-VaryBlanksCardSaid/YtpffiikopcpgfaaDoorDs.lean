/- How fields are read; VaryKeys computes true. -/
import Derived.Test.YtpffiikopcpgfaaDoorDr
set_option linter.all false
/-! part Q96 -/
namespace Go.Av
open Go.Proofs

theorem short_ok {fs : List Fd} (h : shortB fs = true) : fs.length ≤ 30 ∧ totB (fs.map (·.2)) ≤ 15000 ∧ ∀ f ∈ fs, f.1.length ≤ 300 ∧ f.2.length ≤ 500 := by
  unfold shortB at h
  simp only [Bool.and_eq_true, decide_eq_true_eq, List.all_eq_true] at h
  obtain ⟨h1, h2⟩ := h
  refine ⟨h1, ?_, h2⟩
  have : ∀ l : List Fd, (∀ f ∈ l, f.1.length ≤ 300 ∧ f.2.length ≤ 500) → totB (l.map (·.2)) ≤ l.length * 500 := by
    intro l; induction l with
    | nil => intro _; simp [totB]
    | cons a l ih => intro h; rw [List.map_cons, totB_cons, List.length_cons]; have := ih fun v hv => h v (by simp [hv]); have := (h a (by simp)).2; omega
  have := this fs h2
  omega
theorem short_fd {fs : List Fd} (h : shortB fs = true) : FdOk fs := by
  obtain ⟨h1, h2, h3⟩ := short_ok h
  exact ⟨by omega, by omega, fun f hf => Nat.le_trans (h3 f hf).1 (by omega)⟩
theorem few_nm {ns : List (List UInt8)} (h : fewB ns = true) : NmOk ns := by
  obtain ⟨h1, h2, h3⟩ := few_tot h
  exact ⟨by omega, fun n hn => Nat.le_trans (h3 n hn) (by omega)⟩
set_option maxHeartbeats 1000000 in
theorem law15 (ns : List (List UInt8)) (a b : List Fd) (hn : ns.length ≤ 9223372036854775807) (ha : a.length ≤ 9223372036854775807) (hb : b.length ≤ 9223372036854775807) : PureC Tryd.prog 15 [.sl (ns.map PC.str), .sl (a.map fdP), .sl (b.map fdP)] (.bool true) := by
  refine pure_of_aw (ys := [_]) [] [] [] mixed Tryd.func15 rfl (by kernel_rfl) (by kernel_rfl) (by simp [Tryd.ntmps15]) rfl ?_
  simp
  refine pcall_of awake38 rfl ?_
  simp
  refine pcall_of (few39 ns hn) (by simp) ?_
  cases hf : fewB ns with
  | false =>
    simp
    refine pcall_of awake38 rfl ?_
    simp [Tryd.results15]
  | true =>
  simp
  refine pcall_of (short43 a ha) (by simp) ?_
  cases hsa : shortB a with
  | false =>
    simp
    refine pcall_of awake38 rfl ?_
    simp [Tryd.results15]
  | true =>
  simp
  refine pcall_of (short43 b hb) (by simp) ?_
  cases hsb : shortB b with
  | false =>
    simp
    refine pcall_of awake38 rfl ?_
    simp [Tryd.results15]
  | true =>
  have no := few_nm hf
  have oa := short_fd hsa
  have ob := short_fd hsb
  have k1 := key44 ns a no oa
  have k2 := rkey45 ns a no oa
  have m1 := match46 ns a b oa ob no
  have m2 := rmatch47 ns a b no oa ob
  generalize keyB ns a = K at *
  generalize matchB ns a b = R at *
  simp
  refine pcall_of k1 (by simp) ?_
  simp
  refine pcall_of k2 (by simp) ?_
  simp
  refine pcall_of m1 (by simp) ?_
  simp
  refine pcall_of m2 (by simp) ?_
  cases R <;> simp [Tryd.results15]
theorem cellsT67 : Tryd.prog.cellsOf 67 = 2 := by kernel_rfl
theorem flds_of_l {xs : List PC} (h : ∀ x ∈ xs, ∃ f : Fd, x = fdP f ∧ f.1.length ≤ 9223372036854775807 ∧ f.2.length ≤ 9223372036854775807) : ∃ fs : List Fd, xs = fs.map fdP := by
  induction xs with
  | nil => exact ⟨[], rfl⟩
  | cons x xs ih =>
    obtain ⟨ks, rfl⟩ := ih fun y hy => h y (by simp [hy])
    obtain ⟨f, rfl, _⟩ := h x (by simp)
    exact ⟨f :: ks, rfl⟩
def fldsS (x : PC) : Prop := ∃ fs : List Fd, x = .sl (fs.map fdP) ∧ fs.length ≤ 9223372036854775807
def fldS (x : PC) : Prop := ∃ f : Fd, x = fdP f ∧ f.1.length ≤ 9223372036854775807 ∧ f.2.length ≤ 9223372036854775807
theorem rdc67 : RdC Tryd.prog 67 fldS := (rd_struct (Ss := [_, _]) Tryd.underlying67 (by rw [cellsT67]; simp [totF, cellsT9])
    ⟨rfl, (rd_string Tryd.underlying9).c, (by simp [cellsT9]), (rd_string Tryd.underlying9).c, trivial⟩).mono (by
  rintro x ⟨ys, rfl, h⟩
  obtain ⟨_, ys1, rfl, ⟨n, rfl, w1⟩, h1⟩ := all2_c h
  obtain ⟨_, rfl, v, rfl, w2⟩ := all2_1 h1
  simp only [maxLen] at w1 w2
  exact ⟨(n, v), rfl, by simpa using w1, by simpa using w2⟩)
theorem rd67 : RdV Tryd.prog 67 fldS := rv_struct Tryd.underlying67 rdc67 (by rintro x ⟨f, rfl, _⟩; exact ⟨_, rfl⟩)
theorem rd61 : RdV Tryd.prog 61 fldsS :=
  rv_one (by rw [Tryd.underlying61]; simp) (by rw [Tryd.underlying61]; simp) ((rd_slice Tryd.underlying61 (by rw [cellsT67]; omega) rdc67).mono fun x ⟨xs, h, hl, hv⟩ => by
    obtain ⟨ks, rfl⟩ := flds_of_l hv; exact ⟨ks, h, by simp [maxLen] at hl; omega⟩) (by rintro x ⟨s, rfl, _⟩ b xs h; cases h)
theorem law15n {x y z : PC} (hx : strsS x) (hy : fldsS y) (hz : fldsS z) : PureC Tryd.prog 15 [x, y, z] (.bool true) := by
  obtain ⟨ns, rfl, h1⟩ := hx
  obtain ⟨a, rfl, h2⟩ := hy
  obtain ⟨b, rfl, h3⟩ := hz
  exact law15 ns a b h1 h2 h3
end Go.Av
