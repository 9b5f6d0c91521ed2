/- The days of years and months; a moment's date and time, and back; the three forms that the code writes. -/
import Derived.Test.YtffoncjofjgojaaGreatDoorZf
import Derived.Test.YtffoncjofjgojaaGreatDoorProg
import Derived.Shelf.Lays
import Derived.Shelf.Bits.Mul64
set_option linter.all false
/-! part Z96 -/
namespace Go.Av
open Go.Proofs
set_option maxRecDepth 100000
def leapB (y : Int) : Bool := decide (y.tmod 4 = 0) && (!decide (y.tmod 100 = 0) || decide (y.tmod 400 = 0))
def lenB (y m : Int) : Int := if m = 2 then (if leapB y = true then 29 else 28) else if m = 4 ∨ m = 6 ∨ m = 9 ∨ m = 11 then 30 else 31
def aheadB (y : Int) : Int := 365 * (y - 1 - 1969) + (y - 1).tdiv 4 - 492 - ((y - 1).tdiv 100 - 19) + (y - 1).tdiv 400 - 4
theorem leap246 (y : Int) : PureC Tryz.prog 246 [.int y] (.bool (leapB y)) := by
  refine pure_of_aw (ys := [_]) [] [] [] mixed Tryz.func246 rfl (by kernel_rfl) (by kernel_rfl) (by simp [Tryz.ntmps246]) rfl ?_
  simp
  unfold leapB
  by_cases c1 : y.tmod 4 = 0
  · have d1 : (y.tmod 4 == 0) = true := by simpa using c1
    by_cases c2 : y.tmod 100 = 0
    · have d2 : (y.tmod 100 != 0) = false := by simpa using c2
      by_cases c3 : y.tmod 400 = 0
      · simp [c1, c2, c3, Tryz.results246]
      · have d3 : (y.tmod 400 == 0) = false := by simpa using c3
        simp [c1, c2, c3, d3, Tryz.results246]
    · have d2 : (y.tmod 100 != 0) = true := by simpa using c2
      simp [c1, c2, d2, Tryz.results246]
  · have d1 : (y.tmod 4 == 0) = false := by simpa using c1
    simp [c1, d1, Tryz.results246]
theorem length203 (y m : Int) : PureC Tryz.prog 203 [.int y, .int m] (.int (lenB y m)) := by
  refine pure_of_aw (ys := [_]) [] [] [] mixed Tryz.func203 rfl (by kernel_rfl) (by kernel_rfl) (by simp [Tryz.ntmps203]) rfl ?_
  unfold lenB
  by_cases c2 : m = 2
  · subst c2
    simp
    refine pcall_of (leap246 y) (by simp) ?_
    cases h : leapB y with
    | true => simp [Tryz.results203]
    | false => simp [Tryz.results203]
  · have d2 : (m == 2) = false := by simpa using c2
    simp [d2, c2]
    by_cases c4 : m = 4
    · simp [c4, Tryz.results203]
    have d4 : (m == 4) = false := by simpa using c4
    by_cases c6 : m = 6
    · simp [c6, Tryz.results203]
    have d6 : (m == 6) = false := by simpa using c6
    by_cases c9 : m = 9
    · simp [c9, Tryz.results203]
    have d9 : (m == 9) = false := by simpa using c9
    by_cases c11 : m = 11
    · simp [c11, Tryz.results203]
    have d11 : (m == 11) = false := by simpa using c11
    simp [c4, c6, c9, c11, d4, d6, d9, d11, Tryz.results203]
theorem ahead202 (y : Int) (h0 : 1 ≤ y) (h1 : y ≤ 1000000) : PureC Tryz.prog 202 [.int y] (.int (aheadB y)) := by
  refine pure_of_aw (ys := [_]) [] [] [] mixed Tryz.func202 rfl (by kernel_rfl) (by kernel_rfl) (by simp [Tryz.ntmps202]) rfl ?_
  have d1 : (y - 1).tdiv 4 = (y - 1) / 4 := Int.tdiv_eq_ediv_of_nonneg (by omega)
  have d2 : (y - 1).tdiv 100 = (y - 1) / 100 := Int.tdiv_eq_ediv_of_nonneg (by omega)
  have d3 : (y - 1).tdiv 400 = (y - 1) / 400 := Int.tdiv_eq_ediv_of_nonneg (by omega)
  have w1 : IntKind.i64.wrap (y - 1) = y - 1 := wrap64_id (by omega) (by omega)
  have e : aheadB y = 365 * (y - 1 - 1969) + (y - 1) / 4 - 492 - ((y - 1) / 100 - 19) + (y - 1) / 400 - 4 := by unfold aheadB; rw [d1, d2, d3]
  rw [e]
  generalize hz : y - 1 = z at *
  have w2 : IntKind.i64.wrap (z - 1969) = z - 1969 := wrap64_id (by omega) (by omega)
  have w3 : IntKind.i64.wrap (365 * (z - 1969)) = 365 * (z - 1969) := wrap64_id (by omega) (by omega)
  have w4 : IntKind.i64.wrap (z / 4) = z / 4 := wrap64_id (by omega) (by omega)
  have w5 : IntKind.i64.wrap (365 * (z - 1969) + z / 4) = 365 * (z - 1969) + z / 4 := wrap64_id (by omega) (by omega)
  have w6 : IntKind.i64.wrap (365 * (z - 1969) + z / 4 - 492) = 365 * (z - 1969) + z / 4 - 492 := wrap64_id (by omega) (by omega)
  have w7 : IntKind.i64.wrap (z / 100) = z / 100 := wrap64_id (by omega) (by omega)
  have w8 : IntKind.i64.wrap (z / 100 - 19) = z / 100 - 19 := wrap64_id (by omega) (by omega)
  have w9 : IntKind.i64.wrap (365 * (z - 1969) + z / 4 - 492 - (z / 100 - 19)) = 365 * (z - 1969) + z / 4 - 492 - (z / 100 - 19) := wrap64_id (by omega) (by omega)
  have w10 : IntKind.i64.wrap (z / 400) = z / 400 := wrap64_id (by omega) (by omega)
  have w11 : IntKind.i64.wrap (365 * (z - 1969) + z / 4 - 492 - (z / 100 - 19) + z / 400) = 365 * (z - 1969) + z / 4 - 492 - (z / 100 - 19) + z / 400 := wrap64_id (by omega) (by omega)
  have w12 : IntKind.i64.wrap (365 * (z - 1969) + z / 4 - 492 - (z / 100 - 19) + z / 400 - 4) = 365 * (z - 1969) + z / 4 - 492 - (z / 100 - 19) + z / 400 - 4 := wrap64_id (by omega) (by omega)
  simp [w1, hz, d1, d2, d3, w2, w3, w4, w5, w6, w7, w8, w9, w10, w11, w12, Tryz.results202]
end Go.Av

/-! part Z97 -/
namespace Go.Av
open Go.Proofs
set_option maxRecDepth 100000
structure Civ where
  y : Int
  mo : Int
  d : Int
  h : Int
  mi : Int
  s : Int
  w : Int
theorem leap_iff {y : Int} (h : 0 ≤ y) : leapB y = true ↔ y % 4 = 0 ∧ (y % 100 ≠ 0 ∨ y % 400 = 0) := by
  unfold leapB
  rw [Int.tmod_eq_emod_of_nonneg h, Int.tmod_eq_emod_of_nonneg h, Int.tmod_eq_emod_of_nonneg h]
  simp
theorem len2 (y : Int) : lenB y 2 = if leapB y = true then 29 else 28 := by unfold lenB; rw [if_pos rfl]
theorem ahead_eq {y : Int} (h : 1 ≤ y) : aheadB y = 365 * (y - 1970) + (y - 1) / 4 - (y - 1) / 100 + (y - 1) / 400 - 477 := by
  unfold aheadB
  rw [Int.tdiv_eq_ediv_of_nonneg (by omega), Int.tdiv_eq_ediv_of_nonneg (by omega), Int.tdiv_eq_ediv_of_nonneg (by omega)]
  omega
theorem ahead_step {y : Int} (h : 1 ≤ y) : aheadB (y + 1) = aheadB y + 337 + lenB y 2 := by
  rw [ahead_eq h, ahead_eq (by omega), len2]
  have hl := leap_iff (y := y) (by omega)
  by_cases c : leapB y = true
  · rw [if_pos c]
    obtain ⟨c1, c2⟩ := hl.1 c
    omega
  · rw [if_neg c]
    have : ¬ (y % 4 = 0 ∧ (y % 100 ≠ 0 ∨ y % 400 = 0)) := fun k => c (hl.2 k)
    omega
theorem len_b (y m : Int) : 28 ≤ lenB y m ∧ lenB y m ≤ 31 := by
  unfold lenB; split
  · split <;> omega
  · split <;> omega
theorem ahead_lt {y z : Int} (h : 1 ≤ y) (hz : y < z) : aheadB y + 365 ≤ aheadB z := by
  obtain ⟨k, rfl⟩ : ∃ k : Nat, z = y + 1 + k := ⟨(z - y - 1).toNat, by omega⟩
  clear hz
  induction k with
  | zero => have := ahead_step h; have := len_b y 2; simp only [Int.natCast_zero, Int.add_zero]; omega
  | succ k ih =>
    have h1 := ahead_step (y := y + 1 + k) (by omega)
    have h2 := len_b (y + 1 + k) 2
    have e : y + 1 + ((k + 1 : Nat) : Int) = y + 1 + k + 1 := by omega
    rw [e]; omega
def sumM (y : Int) : Nat → Int
  | 0 => 0
  | k + 1 => sumM y k + lenB y ((k + 1 : Nat) : Int)
theorem sum12 (y : Int) : sumM y 12 = 337 + lenB y 2 := by
  simp [sumM, lenB]
  split <;> omega
theorem sum_mono (y : Int) {a b : Nat} (h : a ≤ b) : sumM y a ≤ sumM y b := by
  induction b with
  | zero =>
    obtain rfl : a = 0 := (by omega)
    exact Int.le_refl _
  | succ b ih =>
    rcases Nat.lt_or_ge a (b + 1) with hlt | hge
    · have := ih (by omega); have := len_b y ((b + 1 : Nat) : Int); simp only [sumM]; omega
    · obtain rfl : a = b + 1 := (by omega)
      exact Int.le_refl _
/-- the fields are those of some day, and time -/
structure COk (c : Civ) : Prop where
  y : 1970 ≤ c.y
  y2 : c.y ≤ 9999
  mo : 1 ≤ c.mo ∧ c.mo ≤ 12
  d : 1 ≤ c.d ∧ c.d ≤ lenB c.y c.mo
  h : 0 ≤ c.h ∧ c.h < 24
  mi : 0 ≤ c.mi ∧ c.mi < 60
  s : 0 ≤ c.s ∧ c.s < 60
def dayB (c : Civ) : Int := aheadB c.y + sumM c.y (c.mo - 1).toNat + c.d - 1
def joinB (c : Civ) : Int := dayB c * 86400 + c.h * 3600 + c.mi * 60 + c.s
structure Cal (t : Int) (c : Civ) : Prop where
  ok : COk c
  j : joinB c = t
  w : c.w = dayB c % 7
theorem day_b {c : Civ} (h : COk c) : 0 ≤ dayB c ∧ aheadB c.y ≤ dayB c ∧ dayB c < aheadB (c.y + 1) := by
  obtain ⟨h1, _, h2, h3, _⟩ := h
  have e1 := ahead_step (y := c.y) (by omega)
  have e2 := sum12 c.y
  have e3 : sumM c.y ((c.mo - 1).toNat + 1) ≤ sumM c.y 12 := sum_mono _ (by omega)
  have e4 : sumM c.y ((c.mo - 1).toNat + 1) = sumM c.y (c.mo - 1).toNat + lenB c.y c.mo := by
    simp only [sumM]; rw [show (((c.mo - 1).toNat + 1 : Nat) : Int) = c.mo by omega]
  have e5 : sumM c.y 0 ≤ sumM c.y (c.mo - 1).toNat := sum_mono _ (by omega)
  have e6 : sumM c.y 0 = 0 := rfl
  have e7 : 0 ≤ aheadB c.y := by rw [ahead_eq (by omega)]; omega
  unfold dayB
  omega
theorem join_b {c : Civ} (h : COk c) : 0 ≤ joinB c ∧ joinB c ≤ 253402300799 := by
  have h1 := day_b h
  obtain ⟨g1, g2, _, _, g3, g4, g5⟩ := h
  have h2 : aheadB (c.y + 1) ≤ 2932897 := by
    have e : aheadB 10000 = 2932897 := by decide
    rcases (by omega : c.y + 1 = 10000 ∨ c.y + 1 < 10000) with h | h
    · rw [h, e]; omega
    · have := ahead_lt (y := c.y + 1) (z := 10000) (by omega) h; omega
  unfold joinB
  omega
theorem join_div {c : Civ} (h : COk c) : joinB c / 86400 = dayB c ∧ joinB c % 86400 = c.h * 3600 + c.mi * 60 + c.s := by
  obtain ⟨_, _, _, _, g3, g4, g5⟩ := h
  unfold joinB
  omega
theorem cal_of {c : Civ} (h : COk c) : Cal (joinB c) { c with w := dayB c % 7 } := ⟨⟨h.y, h.y2, h.mo, h.d, h.h, h.mi, h.s⟩, rfl, rfl⟩
end Go.Av

/-! part Z98 -/
namespace Go.Av
open Go.Proofs
set_option maxRecDepth 100000
@[reducible] def civP (c : Civ) : List PC := [.int c.y, .int c.mo, .int c.d, .int c.h, .int c.mi, .int c.s, .int c.w]
@[reducible] def civO (c : Civ) : Ob := ⟨156, 7, [.p (.int c.y), .p (.int c.mo), .p (.int c.d), .p (.int c.h), .p (.int c.mi), .p (.int c.s), .p (.int c.w)]⟩
theorem sum_b (y : Int) (k : Nat) : 0 ≤ sumM y k ∧ sumM y k ≤ 31 * k := by
  induction k with
  | zero => simp [sumM]
  | succ k ih => have := len_b y ((k + 1 : Nat) : Int); simp only [sumM]; omega
set_option maxHeartbeats 1000000 in
theorem joined152 (c : Civ) (h : COk c) : PureC Tryz.prog 152 [.agg false (civP c)] (.int (joinB c)) := by
  have hd := day_b h
  have hj := join_b h
  have hah : aheadB (c.y + 1) ≤ 3000000 := by
    have e : aheadB 10000 = 2932897 := by decide
    rcases (by have := h.y2; omega : c.y + 1 = 10000 ∨ c.y + 1 < 10000) with h' | h'
    · rw [h', e]; omega
    · have := ahead_lt (y := c.y + 1) (z := 10000) (by have := h.y; omega) h'; omega
  obtain ⟨g1, g2, ⟨m1, m2⟩, ⟨d1, d2⟩, ⟨h1, h2⟩, ⟨i1, i2⟩, s1, s2⟩ := h
  have hlb := len_b c.y c.mo
  have hahead := ahead202 c.y (by omega) (by omega)
  refine pure_of_aw (ys := [_]) [] [] [] mixed Tryz.func152 rfl (by kernel_rfl) (by kernel_rfl) (by simp [Tryz.ntmps152]) rfl ?_
  have h0 : 0 ≤ aheadB c.y := by rw [ahead_eq (by omega)]; omega
  have w1 : IntKind.i64.wrap (aheadB c.y + c.d) = aheadB c.y + c.d := wrap64_id (by omega) (by omega)
  have w2 : IntKind.i64.wrap (aheadB c.y + c.d - 1) = aheadB c.y + c.d - 1 := wrap64_id (by omega) (by omega)
  simp
  refine call_of hahead ?_
  simp [w1, w2]
  refine aw_loop0 (fun k : Nat => k ≤ (c.mo - 1).toNat) (fun k => [(1, .p (.ref (.agg false (civP c)))), (3, .p (.int (aheadB c.y + c.d - 1 + sumM c.y k))), (4, .p (.int ((k + 1 : Nat) : Int)))]) (fun k => (c.mo - 1).toNat - k) 0 (by simp) (leN_id (by simp [sumM])) ?_
  intro k hk
  have hsb := sum_b c.y k
  by_cases ck : k < (c.mo - 1).toNat
  · have c' : ((k + 1 : Nat) : Int) < c.mo := by omega
    have c'' : (k : Int) + 1 < c.mo := by omega
    have hl := len_b c.y ((k + 1 : Nat) : Int)
    have e : sumM c.y (k + 1) = sumM c.y k + lenB c.y ((k + 1 : Nat) : Int) := rfl
    have e' : sumM c.y (k + 1) = sumM c.y k + lenB c.y ((k : Int) + 1) := rfl
    have w3 : IntKind.i64.wrap (aheadB c.y + c.d - 1 + sumM c.y k + lenB c.y ((k : Int) + 1)) = aheadB c.y + c.d - 1 + sumM c.y (k + 1) := by rw [wrap64_id (by omega) (by omega), e']; omega
    have w4 : IntKind.i64.wrap ((k : Int) + 1 + 1) = (k : Int) + 1 + 1 := wrap64_id (by omega) (by omega)
    have hlen := length203 c.y ((k : Int) + 1)
    simp [c', c'']
    refine pcall_of hlen (by simp) ?_
    simp [w3, w4]
    exact ⟨k + 1, by omega, by omega, leN_id (by simp)⟩
  · have ek : k = (c.mo - 1).toNat := by omega
    have c' : ¬ ((k : Int) + 1 < c.mo) := by omega
    have ed : aheadB c.y + c.d - 1 + sumM c.y k = dayB c := by unfold dayB; rw [ek]; omega
    have w5 : IntKind.i64.wrap (dayB c * 86400) = dayB c * 86400 := wrap64_id (by omega) (by omega)
    have w6 : IntKind.i64.wrap (c.h * 3600) = c.h * 3600 := wrap64_id (by omega) (by omega)
    have w7 : IntKind.i64.wrap (dayB c * 86400 + c.h * 3600) = dayB c * 86400 + c.h * 3600 := wrap64_id (by omega) (by omega)
    have w8 : IntKind.i64.wrap (c.mi * 60) = c.mi * 60 := wrap64_id (by omega) (by omega)
    have w9 : IntKind.i64.wrap (dayB c * 86400 + c.h * 3600 + c.mi * 60) = dayB c * 86400 + c.h * 3600 + c.mi * 60 := wrap64_id (by omega) (by omega)
    have w10 : IntKind.i64.wrap (dayB c * 86400 + c.h * 3600 + c.mi * 60 + c.s) = dayB c * 86400 + c.h * 3600 + c.mi * 60 + c.s := wrap64_id (by omega) (by omega)
    rw [ed]
    simp [c', w5, w6, w7, w8, w9, w10, joinB, Tryz.results152]
set_option maxHeartbeats 2000000 in
theorem split153 (t : Int) (c : Civ) (h : Cal t c) : PureC Tryz.prog 153 [.int t] (.agg false (civP c)) := by
  obtain ⟨hok, hj, hw⟩ := h
  have hd := day_b hok
  have hjb := join_b hok
  obtain ⟨q1, q2⟩ := join_div hok
  rw [hj] at hjb q1 q2
  have hah : aheadB (c.y + 1) ≤ 3000000 := by
    have e : aheadB 10000 = 2932897 := by decide
    rcases (by have := hok.y2; omega : c.y + 1 = 10000 ∨ c.y + 1 < 10000) with h' | h'
    · rw [h', e]; omega
    · have := ahead_lt (y := c.y + 1) (z := 10000) (by have := hok.y; omega) h'; omega
  obtain ⟨g1, g2, ⟨m1, m2⟩, ⟨d1, d2⟩, ⟨h1, h2⟩, ⟨i1, i2⟩, s1, s2⟩ := hok
  have e1 : t.tdiv 86400 = dayB c := by rw [Int.tdiv_eq_ediv_of_nonneg (by omega)]; exact q1
  have e2 : t.tmod 86400 = c.h * 3600 + c.mi * 60 + c.s := by rw [Int.tmod_eq_emod_of_nonneg (by omega)]; exact q2
  have e3 : (c.h * 3600 + c.mi * 60 + c.s).tdiv 3600 = c.h := by rw [Int.tdiv_eq_ediv_of_nonneg (by omega)]; omega
  have e4 : ((c.h * 3600 + c.mi * 60 + c.s).tdiv 60).tmod 60 = c.mi := by rw [Int.tdiv_eq_ediv_of_nonneg (by omega), Int.tmod_eq_emod_of_nonneg (by omega)]; omega
  have e5 : (c.h * 3600 + c.mi * 60 + c.s).tmod 60 = c.s := by rw [Int.tmod_eq_emod_of_nonneg (by omega)]; omega
  have e6 : (dayB c).tmod 7 = c.w := by rw [Int.tmod_eq_emod_of_nonneg (by omega), hw]
  have e7 : (dayB c).tdiv 366 = dayB c / 366 := Int.tdiv_eq_ediv_of_nonneg (by omega)
  refine pure_of_aw (ys := [_]) [] [] [] mixed Tryz.func153 rfl (by kernel_rfl) (by kernel_rfl) (by simp [Tryz.ntmps153]) rfl ?_
  have y0 : ∃ q : Int, 1970 + dayB c / 366 = q ∧ 1970 ≤ q ∧ q ≤ c.y := by
    refine ⟨_, rfl, by omega, ?_⟩
    rcases Int.lt_or_le c.y (1970 + dayB c / 366) with hlt | hle
    · exfalso
      have h3 : aheadB (c.y + 1) ≤ aheadB (1970 + dayB c / 366) := by
        rcases (by omega : c.y + 1 = 1970 + dayB c / 366 ∨ c.y + 1 < 1970 + dayB c / 366) with h | h
        · rw [h]; exact Int.le_refl _
        · have := ahead_lt (y := c.y + 1) (by omega) h; omega
      have h4 := ahead_eq (y := 1970 + dayB c / 366) (by omega)
      omega
    · exact hle
  obtain ⟨q0, hq0, hq1, hq2⟩ := y0
  have w0 : IntKind.i64.wrap (1970 + dayB c / 366) = q0 := by rw [wrap64_id (by omega) (by omega)]; exact hq0
  have v1 : IntKind.i64.wrap (dayB c) = dayB c := wrap64_id (by omega) (by omega)
  have v2 : IntKind.i64.wrap (dayB c / 366) = dayB c / 366 := wrap64_id (by omega) (by omega)
  have v3 : IntKind.i64.wrap c.h = c.h := wrap64_id (by omega) (by omega)
  have v4 : IntKind.i64.wrap ((c.h * 3600 + c.mi * 60 + c.s).tdiv 60) = (c.h * 3600 + c.mi * 60 + c.s).tdiv 60 := by
    rw [Int.tdiv_eq_ediv_of_nonneg (by omega)]; exact wrap64_id (by omega) (by omega)
  simp [e1, e2, e3, e4, e5, e6, e7, w0, v1, v2, v3, v4]
  refine aw_loop (fun q : Int => 1970 ≤ q ∧ q ≤ c.y) (fun _ => [(2, .obj 0 0), (3, .p (.int (dayB c))), (5, .obj 1 0)])
    (fun q => ⟨[(1, civO ⟨q, 1, 0, c.h, c.mi, c.s, c.w⟩), (0, civO ⟨0, 0, 0, 0, 0, 0, 0⟩)], [], 2⟩) (fun q => (c.y - q).toNat) q0 ⟨hq1, hq2⟩ _ (AS.le_refl _ _) (leN_of [] (by simp)) ?_
  rintro q ⟨p1, p2⟩
  have wq : IntKind.i64.wrap (q + 1) = q + 1 := wrap64_id (by omega) (by omega)
  have haq := ahead202 (q + 1) (by omega) (by omega)
  simp [wq]
  refine pcall_of haq (by simp) ?_
  by_cases cq : q < c.y
  · have hle : aheadB (q + 1) ≤ dayB c := by
      rcases (by omega : q + 1 = c.y ∨ q + 1 < c.y) with h | h
      · rw [h]; exact hd.2.1
      · have := ahead_lt (y := q + 1) (by omega) h; omega
    simp [hle, wq]
    exact ⟨q + 1, ⟨by omega, by omega⟩, by omega, leN_of [] (by simp)⟩
  · obtain rfl : q = c.y := by omega
    have hgt : ¬ aheadB (c.y + 1) ≤ dayB c := by omega
    have hay := ahead202 c.y (by omega) (by omega)
    have h0 : 0 ≤ aheadB c.y := by rw [ahead_eq (by omega)]; omega
    have w5 : IntKind.i64.wrap (dayB c - aheadB c.y) = dayB c - aheadB c.y := wrap64_id (by omega) (by omega)
    simp [hgt]
    refine pcall_of hay (by simp) ?_
    simp [w5]
    refine aw_loop (fun k : Nat => k ≤ (c.mo - 1).toNat) (fun k => [(2, .obj 0 0), (3, .p (.int (dayB c - aheadB c.y - sumM c.y k))), (5, .obj 1 0)])
      (fun k => ⟨[(1, civO ⟨c.y, ((k + 1 : Nat) : Int), 0, c.h, c.mi, c.s, c.w⟩), (0, civO ⟨0, 0, 0, 0, 0, 0, 0⟩)], [], 2⟩) (fun k => (c.mo - 1).toNat - k) 0 (by simp) _ (AS.le_refl _ _) (leN_of [] (by simp [sumM])) ?_
    intro k hk
    have hsb := sum_b c.y k
    have hl := length203 c.y ((k : Int) + 1)
    have hlb := len_b c.y ((k : Int) + 1)
    have hday : dayB c = aheadB c.y + sumM c.y (c.mo - 1).toNat + c.d - 1 := rfl
    have e : sumM c.y (k + 1) = sumM c.y k + lenB c.y ((k : Int) + 1) := rfl
    simp
    refine pcall_of hl (by simp) ?_
    by_cases ck : k < (c.mo - 1).toNat
    · have hm : sumM c.y (k + 1) ≤ sumM c.y (c.mo - 1).toNat := sum_mono _ (by omega)
      have c1 : lenB c.y ((k : Int) + 1) ≤ dayB c - aheadB c.y - sumM c.y k := by omega
      have w6 : IntKind.i64.wrap (dayB c - aheadB c.y - sumM c.y k - lenB c.y ((k : Int) + 1)) = dayB c - aheadB c.y - sumM c.y (k + 1) := by rw [wrap64_id (by omega) (by omega), e]; omega
      have w7 : IntKind.i64.wrap ((k : Int) + 1 + 1) = (k : Int) + 1 + 1 := wrap64_id (by omega) (by omega)
      simp [c1]
      refine pcall_of hl (by simp) ?_
      simp [w6, w7]
      exact ⟨k + 1, by omega, by omega, leN_of [] (by simp)⟩
    · have ek : k = (c.mo - 1).toNat := by omega
      have ek2 : (k : Int) + 1 = c.mo := by omega
      have e9 : dayB c - aheadB c.y - sumM c.y k = c.d - 1 := by rw [hday, ek]; omega
      have c1 : ¬ lenB c.y c.mo ≤ c.d - 1 := by omega
      have w8 : IntKind.i64.wrap (c.d - 1 + 1) = c.d := by rw [wrap64_id (by omega) (by omega)]; omega
      have w9 : IntKind.i64.wrap c.d = c.d := wrap64_id (by omega) (by omega)
      rw [e9]
      simp [c1, w8, w9, ek2, Tryz.results153]
end Go.Av

/-! part TryzMul -/
namespace Go.Proofs
open Go.Shelf
def Tryz.renM : Go.Shelf.Ren := ⟨fun | 212 => 258 | 263 => 262 | 264 => 263 | n => n, fun | 46 => 147 | 51 => 178 | 53 => 180 | 146 => 229 | 148 => 243 | n => n, fun | n => n⟩
theorem Tryz.l212 : Go.Proofs.Lays.n212 Tryz.prog Tryz.renM := {
  mixed := by kernel_rfl
  f212 := Tryz.func258.trans (congrArg some (by kernel_rfl))
  f263 := Tryz.func262.trans (congrArg some (by kernel_rfl))
  f264 := Tryz.func263.trans (congrArg some (by kernel_rfl))
  t46 := Tryz.underlying147
  a46 := Tryz.isAgg147
  z46 := Tryz.sizeOf147
  v46 := Tryz.zeroValue147
  t51 := Tryz.underlying178
  a51 := Tryz.isAgg178
  z51 := Tryz.sizeOf178
  v51 := Tryz.zeroValue178
  t53 := Tryz.underlying180
  a53 := Tryz.isAgg180
  z53 := Tryz.sizeOf180
  v53 := Tryz.zeroValue180
  t146 := Tryz.underlying229
  a146 := Tryz.isAgg229
  z146 := Tryz.sizeOf229
  v146 := Tryz.zeroValue229
  t148 := Tryz.underlying243
  a148 := Tryz.isAgg243
  z148 := Tryz.sizeOf243
  v148 := Tryz.zeroValue243
  }
end Go.Proofs

/-! part Z99 -/
namespace Go.Av
open Go.Proofs Go.RowKit
set_option maxRecDepth 100000
def wdL : List (List UInt8) := [[84, 104, 117, 114, 115, 100, 97, 121], [70, 114, 105, 100, 97, 121], [83, 97, 116, 117, 114, 100, 97, 121], [83, 117, 110, 100, 97, 121], [77, 111, 110, 100, 97, 121], [84, 117, 101, 115, 100, 97, 121], [87, 101, 100, 110, 101, 115, 100, 97, 121]]
def monL : List (List UInt8) := [[74, 97, 110], [70, 101, 98], [77, 97, 114], [65, 112, 114], [77, 97, 121], [74, 117, 110], [74, 117, 108], [65, 117, 103], [83, 101, 112], [79, 99, 116], [78, 111, 118], [68, 101, 99]]
def monsL : List UInt8 := [74, 97, 110, 70, 101, 98, 77, 97, 114, 65, 112, 114, 77, 97, 121, 74, 117, 110, 74, 117, 108, 65, 117, 103, 83, 101, 112, 79, 99, 116, 78, 111, 118, 68, 101, 99]
def padB (k : Nat) (l : List UInt8) : List UInt8 := List.replicate (k - l.length) 48 ++ l
def p2 (n : Int) : List UInt8 := padB 2 (dec n.toNat)
def p4 (n : Int) : List UInt8 := padB 4 (dec n.toNat)
def wdB (w : Int) : List UInt8 := wdL.getD w.toNat []
def monB (m : Int) : List UInt8 := monL.getD (m - 1).toNat []
def clkS (c : Civ) : List UInt8 := p2 c.h ++ 58 :: (p2 c.mi ++ 58 :: p2 c.s)
def gmtB : List UInt8 := [32, 71, 77, 84]
def dshB (d : Int) : List UInt8 := if d < 10 then 32 :: (p2 d).drop 1 else p2 d
def fm0 (c : Civ) : List UInt8 := (wdB c.w).take 3 ++ 44 :: 32 :: (p2 c.d ++ 32 :: (monB c.mo ++ 32 :: (p4 c.y ++ 32 :: (clkS c ++ gmtB))))
def fm1 (c : Civ) : List UInt8 := wdB c.w ++ 44 :: 32 :: (p2 c.d ++ 45 :: (monB c.mo ++ 45 :: (p2 (c.y % 100) ++ 32 :: (clkS c ++ gmtB))))
def fm2 (c : Civ) : List UInt8 := (wdB c.w).take 3 ++ 32 :: (monB c.mo ++ 32 :: (dshB c.d ++ 32 :: (clkS c ++ 32 :: p4 c.y)))
theorem mul258 (a b : Nat) (h : a * b < 18446744073709551616) (ha : a < 18446744073709551616) (hb : b < 18446744073709551616) : PureC Tryz.prog 258 [.sc (.int .u64 a), .sc (.int .u64 b)] (.tp [.sc (.int .u64 0), .sc (.int .u64 ((a * b : Nat) : Int))]) := by
  refine ⟨⟨_, Tryz.func258, by kernel_rfl, by kernel_rfl⟩, fun M w vs hH hr => ?_⟩
  cases hr with
  | cons h1 hs =>
    cases hs with
    | cons h2 hs =>
      cases hs; cases h1; cases h2
      refine (Any.bits_Mul Tryz.l212 a b ha hb w).mono fun e w' ⟨e1, e2⟩ => ?_
      rw [Nat.div_eq_of_lt h, Nat.mod_eq_of_lt h] at e1
      subst e2
      exact ⟨_, M, e1, .tup (vs := [_, _]) (.cons (.sc _ rfl) (.cons (.sc _ rfl) .nil)), hH, Mem.le_refl _, fun _ _ => rfl, Below.refl _ _⟩
theorem repeat247 (k : Nat) (hk : k ≤ 3) : PureC Tryz.prog 247 [.str [48], .int k] (.str (List.replicate k 48)) := by
  refine pure_of_aw (ys := [_]) [] [] [] mixed Tryz.func247 rfl (by kernel_rfl) (by kernel_rfl) (by simp [Tryz.ntmps247]) rfl ?_
  rcases (by omega : k = 0 ∨ k = 1 ∨ k = 2 ∨ k = 3) with rfl | rfl | rfl | rfl
  · simp [Tryz.results247]
  · simp [Tryz.results247]
  · simp
    have u1 : IntKind.u64.wrap 1 = 1 := by decide
    have u2 : IntKind.u64.wrap 2 = 2 := by decide
    have u3 : IntKind.i64.wrap 2 = 2 := by decide
    refine pcall_of (mul258 1 2 (by omega) (by omega) (by omega)) (by simp [u1, u2]) ?_
    simp [u3]
    refine pcall_of (prefix117 _ 48) (by simp; rfl) ?_
    simp [u3]
    refine pcall_of (prefix117 _ 48) (by simp; rfl) ?_
    simp [u3]
    refine pcall_of (prefix117 _ 48) (by simp; rfl) ?_
    simp [u3, Tryz.results247]
  · simp
    have u1 : IntKind.u64.wrap 1 = 1 := by decide
    have u2 : IntKind.u64.wrap 3 = 3 := by decide
    have u3 : IntKind.i64.wrap 3 = 3 := by decide
    refine pcall_of (mul258 1 3 (by omega) (by omega) (by omega)) (by simp [u1, u2]) ?_
    simp [u3]
    refine pcall_of (prefix117 _ 48) (by simp; rfl) ?_
    simp [u3]
    refine pcall_of (prefix117 _ 48) (by simp; rfl) ?_
    simp [u3]
    refine pcall_of (prefix117 _ 48) (by simp; rfl) ?_
    simp [u3, Tryz.results247]
theorem two205 (n : Int) (h0 : 0 ≤ n) (h1 : n ≤ 9223372036854775807) (k : Nat) (hk : k ≤ 4) : PureC Tryz.prog 205 [.int n, .int k] (.str (padB k (dec n.toNat))) := by
  refine pure_of_aw (ys := [_]) [] [] [] mixed Tryz.func205 rfl (by kernel_rfl) (by kernel_rfl) (by simp [Tryz.ntmps205]) rfl ?_
  have hp := print71 n (by omega) h1
  have hne := dec_pos n.toNat
  have hlen := dec_len 18 n.toNat (by omega)
  generalize dec n.toNat = R at *
  have hl : 1 ≤ R.length := List.length_pos_iff.2 hne
  simp
  refine pcall_of hp (by simp) ?_
  by_cases c : R.length ≤ k
  · have w : IntKind.i64.wrap ((k : Int) - R.length) = ((k - R.length : Nat) : Int) := by rw [wrap64_id (by omega) (by omega)]; omega
    have hr := repeat247 (k - R.length) (by omega)
    have m : (if 0 < k - R.length then ((k - R.length : Nat) : Int) else 0) = ((k - R.length : Nat) : Int) := by split <;> omega
    simp [w]
    have hbs : bs ⟨Array.replicate (k - R.length) 48⟩ = List.replicate (k - R.length) 48 := by simp [bs]
    refine pcall_of hr (by simp [m]) ?_
    simp [padB, hbs, Tryz.results205]
    omega
  · have w : IntKind.i64.wrap ((k : Int) - R.length) = (k : Int) - R.length := wrap64_id (by omega) (by omega)
    have hr := repeat247 0 (by omega)
    have e : k - R.length = 0 := by omega
    have m : ¬ (0 < (k : Int) - R.length) := by omega
    have m2 : ¬ R.length < k := by omega
    simp [w, m]
    refine pcall_of hr (by simp; omega) ?_
    simp [padB, e, Tryz.results205]
    omega
@[simp] theorem place224_0 : placeP Tryz.prog 224 0 = some (0, 1) := by kernel_rfl
@[simp] theorem place224_1 : placeP Tryz.prog 224 1 = some (1, 1) := by kernel_rfl
@[simp] theorem place224_2 : placeP Tryz.prog 224 2 = some (2, 1) := by kernel_rfl
@[simp] theorem place224_3 : placeP Tryz.prog 224 3 = some (3, 1) := by kernel_rfl
@[simp] theorem place224_4 : placeP Tryz.prog 224 4 = some (4, 1) := by kernel_rfl
@[simp] theorem place224_5 : placeP Tryz.prog 224 5 = some (5, 1) := by kernel_rfl
@[simp] theorem place224_6 : placeP Tryz.prog 224 6 = some (6, 1) := by kernel_rfl
@[simp] theorem place224_7 : placeP Tryz.prog 224 7 = some (7, 1) := by kernel_rfl
@[simp] theorem place159_0 : placeP Tryz.prog 159 0 = some (0, 1) := by kernel_rfl
@[simp] theorem place159_1 : placeP Tryz.prog 159 1 = some (1, 1) := by kernel_rfl
@[simp] theorem place159_2 : placeP Tryz.prog 159 2 = some (2, 1) := by kernel_rfl
theorem arrEl224 : arrEl Tryz.prog 224 = some (8, 1, false) := by kernel_rfl
theorem iaQ224 {k : AV → Prop} {id off : Nat} {c : IntKind} {j : Int} (h0 : 0 ≤ j) (h1 : j < 8) : iaQ Tryz.prog 224 k (.obj id off) (.p (.sc (.int c j))) = k (.obj id (off + j.toNat * 1)) := iaQ_obj arrEl224 h0 h1
theorem wr1 : IntKind.i64.wrap 1 = 1 := by decide
theorem wr2 : IntKind.i64.wrap 2 = 2 := by decide
theorem wr3 : IntKind.i64.wrap 3 = 3 := by decide
theorem wr4 : IntKind.i64.wrap 4 = 4 := by decide
theorem wr5 : IntKind.i64.wrap 5 = 5 := by decide
theorem wr6 : IntKind.i64.wrap 6 = 6 := by decide
theorem wr7 : IntKind.i64.wrap 7 = 7 := by decide
theorem weekday204 (w : Int) (h0 : 0 ≤ w) (h1 : w ≤ 6) : PureC Tryz.prog 204 [.int w] (.str (wdB w)) := by
  refine pure_of_aw (ys := [_]) [] [(2, [(2, .r 1), (6, .r 1)])] [(1, 0)] mixed Tryz.func204 rfl (by kernel_rfl) (by kernel_rfl) (by simp [Tryz.ntmps204]) rfl ?_
  rcases (by omega : w = 0 ∨ w = 1 ∨ w = 2 ∨ w = 3 ∨ w = 4 ∨ w = 5 ∨ w = 6) with rfl | rfl | rfl | rfl | rfl | rfl | rfl
  all_goals simp [iaQ224, wr1, wr2, wr3, wr4, wr5, wr6, wr7, Tryz.results204]
  all_goals decide
theorem name206 (c : Civ) (h : 1 ≤ c.mo ∧ c.mo ≤ 12) : PureC Tryz.prog 206 [.agg false (civP c)] (.str (monB c.mo)) := by
  refine pure_of_aw (ys := [_]) [] [] [] mixed Tryz.func206 rfl (by kernel_rfl) (by kernel_rfl) (by simp [Tryz.ntmps206]) rfl ?_
  obtain ⟨y, mo, d, hh, mi, s, w⟩ := c
  simp only at h
  rcases (by omega : mo = 1 ∨ mo = 2 ∨ mo = 3 ∨ mo = 4 ∨ mo = 5 ∨ mo = 6 ∨ mo = 7 ∨ mo = 8 ∨ mo = 9 ∨ mo = 10 ∨ mo = 11 ∨ mo = 12) with rfl | rfl | rfl | rfl | rfl | rfl | rfl | rfl | rfl | rfl | rfl | rfl
  all_goals simp
  all_goals decide
structure FOk (c : Civ) : Prop where
  y : 0 ≤ c.y ∧ c.y ≤ 9999
  mo : 1 ≤ c.mo ∧ c.mo ≤ 12
  d : 0 ≤ c.d ∧ c.d ≤ 31
  h : 0 ≤ c.h ∧ c.h < 24
  mi : 0 ≤ c.mi ∧ c.mi < 60
  s : 0 ≤ c.s ∧ c.s < 60
  w : 0 ≤ c.w ∧ c.w ≤ 6
theorem pad_len (k n : Nat) (h : n < 10000000000) : (padB k (dec n)).length ≤ k + 10 := by
  have := dec_len 9 n (by omega)
  unfold padB; simp; omega
theorem clock207 (c : Civ) (h : FOk c) : PureC Tryz.prog 207 [.agg false (civP c)] (.str (clkS c)) := by
  obtain ⟨_, _, _, h1, h2, h3, _⟩ := h
  have t1 := two205 c.h (by omega) (by omega) 2 (by omega)
  have t2 := two205 c.mi (by omega) (by omega) 2 (by omega)
  have t3 := two205 c.s (by omega) (by omega) 2 (by omega)
  have l1 := pad_len 2 c.h.toNat (by omega)
  have l2 := pad_len 2 c.mi.toNat (by omega)
  have l3 := pad_len 2 c.s.toNat (by omega)
  unfold clkS p2
  refine pure_of_aw (ys := [_]) [] [] [] mixed Tryz.func207 rfl (by kernel_rfl) (by kernel_rfl) (by simp [Tryz.ntmps207]) rfl ?_
  generalize padB 2 (dec c.h.toNat) = A at *
  generalize padB 2 (dec c.mi.toNat) = B at *
  generalize padB 2 (dec c.s.toNat) = C at *
  simp
  refine call_of t1 ?_
  simp
  refine ⟨by omega, ?_⟩
  refine call_of t2 ?_
  simp
  refine ⟨by omega, by omega, ?_⟩
  refine call_of t3 ?_
  simp [Tryz.results207]
  omega
theorem clk_len (c : Civ) (h : FOk c) : (clkS c).length ≤ 40 := by
  obtain ⟨_, _, _, h1, h2, h3, _⟩ := h
  have l1 := pad_len 2 c.h.toNat (by omega)
  have l2 := pad_len 2 c.mi.toNat (by omega)
  have l3 := pad_len 2 c.s.toNat (by omega)
  unfold clkS p2; simp; omega
theorem wd_len (w : Int) : (wdB w).length ≤ 9 := by
  unfold wdB
  rcases (by omega : w.toNat = 0 ∨ w.toNat = 1 ∨ w.toNat = 2 ∨ w.toNat = 3 ∨ w.toNat = 4 ∨ w.toNat = 5 ∨ w.toNat = 6 ∨ 7 ≤ w.toNat) with h | h | h | h | h | h | h | h
  all_goals first | (rw [h]; decide) | skip
  rw [List.getD_eq_getElem?_getD, List.getElem?_eq_none (by simpa [wdL] using h)]; simp
theorem mon_len (m : Int) : (monB m).length ≤ 3 := by
  unfold monB
  generalize (m - 1).toNat = k
  rcases (by omega : k = 0 ∨ k = 1 ∨ k = 2 ∨ k = 3 ∨ k = 4 ∨ k = 5 ∨ k = 6 ∨ k = 7 ∨ k = 8 ∨ k = 9 ∨ k = 10 ∨ k = 11 ∨ 12 ≤ k) with h | h | h | h | h | h | h | h | h | h | h | h | h
  all_goals first | (rw [h]; decide) | skip
  rw [List.getD_eq_getElem?_getD, List.getElem?_eq_none (by simpa [monL] using h)]; simp
theorem wd_3 (w : Int) (h0 : 0 ≤ w) (h1 : w ≤ 6) : 3 ≤ (wdB w).length := by
  unfold wdB
  rcases (by omega : w.toNat = 0 ∨ w.toNat = 1 ∨ w.toNat = 2 ∨ w.toNat = 3 ∨ w.toNat = 4 ∨ w.toNat = 5 ∨ w.toNat = 6) with h | h | h | h | h | h | h
  all_goals (rw [h]; decide)
set_option maxHeartbeats 2000000 in
theorem forms154 (c : Civ) (h : FOk c) : PureC Tryz.prog 154 [.agg false (civP c)] (.agg false [.str (fm0 c), .str (fm1 c), .str (fm2 c)]) := by
  have hclk := clock207 c h
  have hcl := clk_len c h
  obtain ⟨⟨y1, y2⟩, hmo, ⟨d1, d2⟩, _, _, _, ⟨w1, w2⟩⟩ := h
  have hwd := weekday204 c.w w1 w2
  have hwl := wd_len c.w
  have hw3 := wd_3 c.w w1 w2
  have hnm := name206 c hmo
  have hml := mon_len c.mo
  have t1 := two205 c.d (by omega) (by omega) 2 (by omega)
  have t2 := two205 c.y (by omega) (by omega) 4 (by omega)
  have t3 := two205 (c.y % 100) (by omega) (by omega) 2 (by omega)
  have l1 := pad_len 2 c.d.toNat (by omega)
  have l2 := pad_len 4 c.y.toNat (by omega)
  have l3 := pad_len 2 (c.y % 100).toNat (by omega)
  have hmod : c.y.tmod 100 = c.y % 100 := Int.tmod_eq_emod_of_nonneg y1
  have hp2 : 2 ≤ (padB 2 (dec c.d.toNat)).length := by unfold padB; simp; omega
  unfold fm0 fm1 fm2 dshB p2 p4 gmtB
  refine pure_of_aw (ys := [_]) [] [(6, [(57, .s 1 [])])] [(1, 0)] mixed Tryz.func154 rfl (by kernel_rfl) (by kernel_rfl) (by simp [Tryz.ntmps154]) rfl ?_
  generalize clkS c = K at *
  generalize wdB c.w = W at *
  generalize monB c.mo = N at *
  generalize padB 2 (dec c.d.toNat) = A at *
  generalize padB 4 (dec c.y.toNat) = Y at *
  generalize padB 2 (dec (c.y % 100).toNat) = Z at *
  simp
  refine pcall_of hwd (by simp) ?_
  simp
  refine pcall_of t1 (by simp) ?_
  have hdrop : A.drop 1 = A.tail := by cases A <;> rfl
  by_cases c10 : c.d < 10
  · simp [c10]
    repeat' apply And.intro
    all_goals first | omega | skip
    refine call_of hnm ?_
    simp [hmod]
    repeat' apply And.intro
    all_goals first | omega | skip
    refine call_of t2 ?_
    simp [hmod]
    repeat' apply And.intro
    all_goals first | omega | skip
    refine call_of hclk ?_
    simp [hmod]
    repeat' apply And.intro
    all_goals first | omega | skip
    refine call_of hnm ?_
    simp [hmod]
    repeat' apply And.intro
    all_goals first | omega | skip
    refine call_of t3 ?_
    simp [hmod]
    repeat' apply And.intro
    all_goals first | omega | skip
    refine call_of hclk ?_
    simp [hmod]
    repeat' apply And.intro
    all_goals first | omega | skip
    refine call_of hnm ?_
    simp [hmod]
    repeat' apply And.intro
    all_goals first | omega | skip
    refine call_of hclk ?_
    simp [hmod]
    repeat' apply And.intro
    all_goals first | omega | skip
    refine call_of t2 ?_
    simp [hmod, hdrop, Tryz.results154]
    repeat' apply And.intro
    all_goals first | omega | skip
  · simp [c10]
    repeat' apply And.intro
    all_goals first | omega | skip
    refine call_of hnm ?_
    simp [hmod]
    repeat' apply And.intro
    all_goals first | omega | skip
    refine call_of t2 ?_
    simp [hmod]
    repeat' apply And.intro
    all_goals first | omega | skip
    refine call_of hclk ?_
    simp [hmod]
    repeat' apply And.intro
    all_goals first | omega | skip
    refine call_of hnm ?_
    simp [hmod]
    repeat' apply And.intro
    all_goals first | omega | skip
    refine call_of t3 ?_
    simp [hmod]
    repeat' apply And.intro
    all_goals first | omega | skip
    refine call_of hclk ?_
    simp [hmod]
    repeat' apply And.intro
    all_goals first | omega | skip
    refine call_of hnm ?_
    simp [hmod]
    repeat' apply And.intro
    all_goals first | omega | skip
    refine call_of hclk ?_
    simp [hmod]
    repeat' apply And.intro
    all_goals first | omega | skip
    refine call_of t2 ?_
    simp [hmod, hdrop, Tryz.results154]
    repeat' apply And.intro
    all_goals first | omega | skip
end Go.Av
