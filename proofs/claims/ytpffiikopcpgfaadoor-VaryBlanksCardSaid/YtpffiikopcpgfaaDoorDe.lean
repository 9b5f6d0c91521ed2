/- The document's example; StartReads computes true of any octets; how octets are read. -/
import Derived.Test.YtpffiikopcpgfaaDoorDd
set_option linter.all false
/-! part Q25 -/
namespace Go.Av
open Go.Proofs

def exA : List UInt8 := [71, 69, 84, 32, 47, 120, 32, 72, 84, 84, 80, 47, 49, 46, 49, 13, 10, 65]
def exB : List UInt8 := [72, 84, 84, 80, 47, 49, 46, 48, 32, 50, 48, 52, 32, 13, 10]
theorem exA_eq : reqB exA = (⟨[71, 69, 84], [47, 120], 0, [], 1⟩, 17, 0) := by kernel_rfl
theorem exB_eq : resB exB = (⟨[], [], 204, [], 0⟩, 15, 0) := by kernel_rfl
abbrev rowBy (l : List UInt8) : Ob := ⟨1000005, 1, (bytesPC l).map .p⟩
set_option maxHeartbeats 1000000 in
theorem awake18 : PureC Tryd.prog 18 [] (.bool true) := by
  have hA := request19 exA (by decide)
  rw [exA_eq] at hA
  have hB := response21 exB (by decide)
  rw [exB_eq] at hB
  refine pure_of_aw (ys := [_]) [8, 15] [] [] mixed Tryd.func18 rfl (by kernel_rfl) (by kernel_rfl) (by simp [Tryd.ntmps18]) rfl ?_
  have pc1 : ∀ v : Value, pcCells (.sc v) = [.p (.sc v)] := fun _ => rfl
  simp [pc1]
  refine bcall_of0 hA ⟨bor_byt (L := exA) (M := []) rfl (by simp [lk, exA, bytesPC]), trivial⟩ (by rfl) ?_
  simp [pc1]
  refine bcall_of0 hB ⟨bor_byt (L := exB) (M := []) rfl (by simp [lk, exB, bytesPC]), trivial⟩ (by rfl) ?_
  simp [pc1]
end Go.Av

/-! part Q26 -/
namespace Go.Av
open Go.Proofs

set_option maxHeartbeats 2000000 in
set_option maxRecDepth 100000 in
theorem law3 (b : List UInt8) (hb : b.length ≤ 9223372036854775807) : PureC Tryd.prog 3 [.sl (bytesPC b)] (.bool true) := by
  refine pure_of_aw (ys := [_]) [] [] [] mixed Tryd.func3 rfl (by kernel_rfl) (by kernel_rfl) (by simp [Tryd.ntmps3]) rfl ?_
  simp
  refine pcall_of awake18 (by simp) ?_
  by_cases c : b.length ≤ 9000
  case neg =>
    have d : (9000 : Int) < (b.length : Int) := by omega
    simp [d, show 9000 < b.length by omega]
    refine pcall_of awake18 (by simp) ?_
    simp [Tryd.results3]
  have d : ¬ (9000 : Int) < (b.length : Int) := by omega
  simp [d, show ¬ 9000 < b.length by omega]
  refine ⟨fun y hy => bytes_width y hy, by omega, by omega, ?_⟩
  refine pcall_of (request19 b (by omega)) (by simp) ?_
  simp
  refine pcall_of (rrequest20 b (by omega)) (by simp) ?_
  simp
  refine pcall_of (response21 b (by omega)) (by simp) ?_
  simp
  refine pcall_of (rresponse22 b (by omega)) (by simp) ?_
  rw [rreq_eq, rres_eq]
  have hnb := not_both b
  generalize reqB b = p at *
  generalize resB b = q at *
  obtain ⟨⟨m, t, st, r, mi⟩, n, e⟩ := p
  obtain ⟨⟨m', t', st', r', mi'⟩, n', e'⟩ := q
  simp only at hnb ⊢
  by_cases he : e = 0
  · have h1 : (e' != 0) = true := by simpa using hnb he
    subst he
    simp [h1, Tryd.results3]
  · have h1 : (e != 0) = true := by simpa using he
    simp [h1, Tryd.results3]
end Go.Av

/-! part Q27 -/
namespace Go.Av
open Go.Proofs
theorem laidO : laidOutB Tryd.prog = true := by kernel_rfl
theorem cellsT5 : Tryd.prog.cellsOf 5 = 1 := by kernel_rfl
theorem bounds_u8 {n : Int} (h : (Lit.int .u8 n).wf = true) : 0 ≤ n ∧ n ≤ 255 := by
  have a : IntKind.u8.min = 0 := rfl
  have b : IntKind.u8.max = 255 := rfl
  simp only [Lit.wf, Bool.and_eq_true, decide_eq_true_eq, a, b] at h
  exact h
theorem bytes_of_l {xs : List PC} (h : ∀ x ∈ xs, ∃ n : Int, x = .sc (.int .u8 n) ∧ (Lit.int .u8 n).wf = true) : ∃ ks : List UInt8, xs = bytesPC ks := by
  induction xs with
  | nil => exact ⟨[], rfl⟩
  | cons x xs ih =>
    obtain ⟨ks, rfl⟩ := ih fun y hy => h y (by simp [hy])
    obtain ⟨n, rfl, hw⟩ := h x (by simp)
    have hb := bounds_u8 hw
    refine ⟨UInt8.ofNat n.toNat :: ks, ?_⟩
    have e : ((UInt8.ofNat n.toNat).toNat : Int) = n := by
      rw [UInt8.toNat_ofNat']; omega
    simp only [bytesPC, List.map_cons, e]
def bytesS (x : PC) : Prop := ∃ b : List UInt8, x = .sl (bytesPC b) ∧ b.length ≤ 9223372036854775807
theorem rd22 : RdV Tryd.prog 22 bytesS :=
  rv_one (by rw [Tryd.underlying22]; simp) (by rw [Tryd.underlying22]; simp) ((rd_slice Tryd.underlying22 (by rw [cellsT5]; omega) (rd_int Tryd.underlying5)).mono fun x ⟨xs, h, hl, hv⟩ => by
    obtain ⟨ks, rfl⟩ := bytes_of_l hv; exact ⟨ks, h, by simp [maxLen] at hl; omega⟩) (by rintro x ⟨s, rfl, _⟩ b xs h; cases h)
theorem law3n {x : PC} (hx : bytesS x) : PureC Tryd.prog 3 [x] (.bool true) := by
  obtain ⟨b, rfl, h⟩ := hx
  exact law3 b h
end Go.Av
