/- The document's dates: its forms, and what its Parse computes. -/
import Derived.Test.YtffoncjofjgojaaGreatDoorZn
set_option linter.all false
/-! part Z141 -/
namespace Go.Av
open Go.Proofs
set_option maxRecDepth 100000
theorem rday159 (w : Int) (h0 : 0 ≤ w) (h1 : w ≤ 6) : PureC Tryz.prog 159 [.int w] (.str (wdB ((w + 3) % 7))) := by
  refine pure_of_aw (ys := [_]) [] [] [] mixed Tryz.func159 rfl (by kernel_rfl) (by kernel_rfl) (by simp [Tryz.ntmps159]) rfl ?_
  rcases (by omega : w = 0 ∨ w = 1 ∨ w = 2 ∨ w = 3 ∨ w = 4 ∨ w = 5 ∨ w = 6) with rfl | rfl | rfl | rfl | rfl | rfl | rfl
  all_goals simp [Tryz.results159]
  all_goals decide
theorem rmonth210 (m : Int) (h0 : 0 ≤ m) (h1 : m ≤ 11) : PureC Tryz.prog 210 [.int m] (.str (monB (m + 1))) := by
  refine pure_of_aw (ys := [_]) [] [] [] mixed Tryz.func210 rfl (by kernel_rfl) (by kernel_rfl) (by simp [Tryz.ntmps210]) rfl ?_
  rcases (by omega : m = 0 ∨ m = 1 ∨ m = 2 ∨ m = 3 ∨ m = 4 ∨ m = 5 ∨ m = 6 ∨ m = 7 ∨ m = 8 ∨ m = 9 ∨ m = 10 ∨ m = 11) with rfl | rfl | rfl | rfl | rfl | rfl | rfl | rfl | rfl | rfl | rfl | rfl
  all_goals simp [Tryz.results210]
  all_goals decide
theorem rlong208 (y m : Int) (hy : 0 ≤ y) (h0 : 0 ≤ m) (h1 : m ≤ 11) : PureC Tryz.prog 208 [.int y, .int m] (.int (lenB y (m + 1))) := by
  refine pure_of_aw (ys := [_]) [] [] [] mixed Tryz.func208 rfl (by kernel_rfl) (by kernel_rfl) (by simp [Tryz.ntmps208]) rfl ?_
  by_cases hm : m = 1
  · subst hm
    have hl := leap_iff hy
    rw [show (1 : Int) + 1 = 2 from rfl, len2]
    have t4 := Int.tmod_eq_emod_of_nonneg (b := 4) hy
    have t100 := Int.tmod_eq_emod_of_nonneg (b := 100) hy
    have t400 := Int.tmod_eq_emod_of_nonneg (b := 400) hy
    by_cases c400 : y % 400 = 0
    · have d : (y.tmod 400 == 0) = true := by rw [t400, beq_iff_eq]; exact c400
      rw [if_pos (hl.2 ⟨by omega, .inr c400⟩)]
      simp [d, Tryz.results208]
    have d : (y.tmod 400 == 0) = false := by rw [t400, beq_eq_false_iff_ne]; exact c400
    by_cases c4 : y % 4 = 0
    · have d4 : (y.tmod 4 == 0) = true := by rw [t4, beq_iff_eq]; exact c4
      by_cases c100 : y % 100 = 0
      · have d100 : (y.tmod 100 != 0) = false := by rw [t100]; simpa using c100
        rw [if_neg (fun h => by have := hl.1 h; omega)]
        simp [d, d4, d100, Tryz.results208]
      · have d100 : (y.tmod 100 != 0) = true := by rw [t100]; simpa using c100
        rw [if_pos (hl.2 ⟨c4, .inl c100⟩)]
        simp [d, d4, d100, Tryz.results208]
    · have d4 : (y.tmod 4 == 0) = false := by rw [t4, beq_eq_false_iff_ne]; exact c4
      rw [if_neg (fun h => by have := hl.1 h; omega)]
      simp [d, d4, Tryz.results208]
  · rcases (by omega : m = 0 ∨ m = 2 ∨ m = 3 ∨ m = 4 ∨ m = 5 ∨ m = 6 ∨ m = 7 ∨ m = 8 ∨ m = 9 ∨ m = 10 ∨ m = 11) with rfl | rfl | rfl | rfl | rfl | rfl | rfl | rfl | rfl | rfl | rfl
    all_goals simp [lenB, Tryz.results208]
theorem ryear209 (y : Int) (hy : 0 ≤ y) : PureC Tryz.prog 209 [.int y] (.int (337 + lenB y 2)) := by
  have h := rlong208 y 1 hy (by omega) (by omega)
  have hb := len_b y 2
  refine pure_of_aw (ys := [_]) [] [] [] mixed Tryz.func209 rfl (by kernel_rfl) (by kernel_rfl) (by simp [Tryz.ntmps209]) rfl ?_
  simp
  refine pcall_of h (by simp) ?_
  have w : IntKind.i64.wrap (337 + lenB y 2) = 337 + lenB y 2 := wrap64_id (by omega) (by omega)
  simp [w, Tryz.results209]
def digR : Nat → Nat → List UInt8
  | 0, _ => []
  | k + 1, n => digR k (n / 10) ++ [UInt8.ofNat (48 + n % 10)]
theorem digR_zero (k : Nat) : digR k 0 = List.replicate k 48 := by
  induction k with
  | zero => rfl
  | succ k ih =>
    show digR k (0 / 10) ++ [UInt8.ofNat (48 + 0 % 10)] = _
    rw [Nat.zero_div, ih, List.replicate_succ']; rfl
theorem pad_dig (k n : Nat) (h : n < 10 ^ (k + 1)) : padB (k + 1) (dec n) = digR (k + 1) n := by
  induction k generalizing n with
  | zero =>
    have hn : n < 10 := by simpa using h
    rw [dec_lt hn]
    show padB 1 [_] = digR 0 _ ++ [UInt8.ofNat (48 + n % 10)]
    rw [Nat.mod_eq_of_lt hn]
    simp [padB, digR, dgc]
  | succ k ih =>
    by_cases hn : n < 10
    · rw [dec_lt hn]
      show padB (k + 2) [_] = digR (k + 1) (n / 10) ++ [UInt8.ofNat (48 + n % 10)]
      rw [Nat.mod_eq_of_lt hn, Nat.div_eq_of_lt hn, digR_zero]
      simp [padB, dgc]
    · rw [dec_ge (by omega)]
      show padB (k + 2) (dec (n / 10) ++ [_]) = digR (k + 1) (n / 10) ++ [UInt8.ofNat (48 + n % 10)]
      rw [← ih (n / 10) (by rw [Nat.pow_succ] at h; omega)]
      simp [padB, dgc]
theorem rdig212 (n : Nat) (k : Nat) (hn : n ≤ 1000000000000) (hk : k ≤ 4) : PureC Tryz.prog 212 [.int n, .int k] (.str (digR k n)) := by
  refine pure_of_aw (ys := [_]) [] [] [] mixed Tryz.func212 rfl (by kernel_rfl) (by kernel_rfl) (by simp [Tryz.ntmps212]) rfl ?_
  obtain ⟨R, hR⟩ : ∃ R, R = digR k n := ⟨_, rfl⟩
  rw [← hR]
  simp
  refine aw_loop0 (fun y : Nat × Nat × List UInt8 => y.1 ≤ k ∧ y.2.1 ≤ 1000000000000 ∧ R = digR (k - y.1) y.2.1 ++ y.2.2 ∧ y.2.2.length = y.1) (fun y => [(0, .p (.int y.2.1)), (1, .p (.int k)), (5, .p (.str y.2.2)), (6, .p (.int y.1))]) (fun y => k - y.1) (0, n, []) ⟨by simp, hn, by simpa using hR, rfl⟩ (leN_id (by simp)) ?_
  rintro ⟨i, v, s⟩ ⟨h1, h2, h3, h4⟩
  simp only at h1 h2 h3 h4
  by_cases c : i < k
  · have e1 : k - i = (k - (i + 1)) + 1 := by omega
    rw [e1] at h3
    have t : (v : Int).tmod 10 = ((v % 10 : Nat) : Int) := by rw [Int.tmod_eq_emod_of_nonneg (by omega)]; omega
    have t2 : (v : Int).tdiv 10 = ((v / 10 : Nat) : Int) := by rw [Int.tdiv_eq_ediv_of_nonneg (by omega)]; omega
    have wU : IntKind.u8.wrap (IntKind.i64.wrap (48 + (v : Int) % 10)) = ((UInt8.ofNat (48 + v % 10)).toNat : Int) := by
      rw [wrap64_id (by omega) (by omega), wrapU8_id (by omega) (by omega)]
      simp
      omega
    obtain ⟨ch, hch⟩ : ∃ ch, ch = UInt8.ofNat (48 + v % 10) := ⟨_, rfl⟩
    rw [← hch] at wU
    have hb : [PC.sc (Value.int IntKind.u8 ((ch.toNat : Nat) : Int))] = bytesPC [ch] := rfl
    have w2 : IntKind.i64.wrap ((i : Int) + 1) = ((i + 1 : Nat) : Int) := by rw [wrap64_id (by omega) (by omega)]; rfl
    simp [c, t, t2, wU, w2]
    rw [hb]
    have wd : IntKind.i64.wrap ((v : Int) / 10) = (v : Int) / 10 := wrap64_id (by omega) (by omega)
    simp [t2, w2, wd]
    exact ⟨by omega, i + 1, v / 10, ch :: s, ⟨by omega, by omega, by rw [h3, hch]; simp [digR], by simp [h4]⟩, by omega, leN_id (by simp)⟩
  · obtain rfl : i = k := by omega
    simp [digR] at h3
    simp [h3, Tryz.results212]
end Go.Av

/-! part Z142 -/
namespace Go.Av
open Go.Proofs
set_option maxRecDepth 100000
/-- the digits of s from a place on, k of them, on top of v; -1: they are none -/
def numR (s : List UInt8) : Nat → Nat → Nat → Int
  | 0, _, v => v
  | k + 1, a, v => match s[a]? with
    | none => -1
    | some c => if c.toNat < 48 ∨ 57 < c.toNat then -1 else numR s k (a + 1) (v * 10 + (c.toNat - 48))
theorem rnum156 (s : List UInt8) (a k : Nat) (hs : s.length ≤ 1000000) (ha : a ≤ 1000000) (hk : k ≤ 4) : PureC Tryz.prog 156 [.str s, .int a, .int ((a + k : Nat) : Int)] (.int (numR s k a 0)) := by
  refine pure_of_aw (ys := [_]) [] [] [] mixed Tryz.func156 rfl (by kernel_rfl) (by kernel_rfl) (by simp [Tryz.ntmps156]) rfl ?_
  obtain ⟨R, hR⟩ : ∃ R, R = numR s k a 0 := ⟨_, rfl⟩
  rw [← hR]
  obtain ⟨z, hz⟩ : ∃ z, z = a + k := ⟨_, rfl⟩
  rw [← hz]
  simp
  refine aw_loop0 (fun y : Nat × Nat => a ≤ y.1 ∧ y.1 ≤ z ∧ y.2 < 10 ^ (y.1 - a) ∧ R = numR s (z - y.1) y.1 y.2) (fun y => [(0, .p (.str s)), (1, .p (.int a)), (2, .p (.int z)), (7, .p (.int y.2)), (8, .p (.int y.1))]) (fun y => z - y.1) (a, 0) ⟨Nat.le_refl _, by simp only; omega, by simp, by simp only; rw [hR, hz]; congr 1; omega⟩ (leN_id (by simp)) ?_
  rintro ⟨i, v⟩ ⟨h1, h2, h3, h4⟩
  simp only at h1 h2 h3 h4
  have hv : v < 10000 := Nat.lt_of_lt_of_le h3 (by
    have : 10 ^ (i - a) ≤ 10 ^ 4 := Nat.pow_le_pow_right (by omega) (by omega)
    simpa using this)
  by_cases c : i < z
  · have e1 : z - i = (z - (i + 1)) + 1 := by omega
    rw [e1] at h4
    simp only [numR] at h4
    have w2 : IntKind.i64.wrap ((i : Int) + 1) = ((i + 1 : Nat) : Int) := by rw [wrap64_id (by omega) (by omega)]; rfl
    by_cases c2 : i < s.length
    · rw [List.getElem?_eq_getElem c2] at h4
      simp only at h4
      have d2 : decide (s.length ≤ i) = false := decide_eq_false (by omega)
      by_cases c3 : s[i].toNat < 48
      · rw [if_pos (.inl c3)] at h4
        have d3 : decide (((s[i].toNat : Nat) : Int) < 48) = true := decide_eq_true (by omega)
        simp [c, d2, c2, d3, h4, Tryz.results156]
      · by_cases c4 : 57 < s[i].toNat
        · rw [if_pos (.inr c4)] at h4
          have d3 : decide (((s[i].toNat : Nat) : Int) < 48) = false := decide_eq_false (by omega)
          have d4 : decide ((57 : Int) < ((s[i].toNat : Nat) : Int)) = true := decide_eq_true (by omega)
          simp [c, d2, c2, d3, d4, h4, Tryz.results156]
        · rw [if_neg (by omega)] at h4
          have d3 : decide (((s[i].toNat : Nat) : Int) < 48) = false := decide_eq_false (by omega)
          have d4 : decide ((57 : Int) < ((s[i].toNat : Nat) : Int)) = false := decide_eq_false (by omega)
          generalize hq : s[i].toNat = q at *
          have wa : IntKind.i64.wrap ((v : Int) * 10) = (v : Int) * 10 := wrap64_id (by omega) (by omega)
          have wb : IntKind.i64.wrap (q : Int) = (q : Int) := wrap64_id (by omega) (by omega)
          have wc : IntKind.i64.wrap ((v : Int) * 10 + (q : Int)) = (v : Int) * 10 + (q : Int) := wrap64_id (by omega) (by omega)
          have we : IntKind.i64.wrap ((v : Int) * 10 + (q : Int) - 48) = ((v * 10 + (q - 48) : Nat) : Int) := by rw [wrap64_id (by omega) (by omega)]; omega
          have hp : v * 10 + (q - 48) < 10 ^ (i + 1 - a) := by
            rw [show i + 1 - a = (i - a) + 1 by omega, Nat.pow_succ]; omega
          simp [c, d2, c2, d3, d4, w2, hq, wa, wb, wc, we]
          exact ⟨i + 1, v * 10 + (q - 48), ⟨by omega, by omega, hp, h4⟩, by omega, leN_id (by simp)⟩
    · rw [List.getElem?_eq_none (by omega)] at h4
      simp only at h4
      have d2 : decide (s.length ≤ i) = true := decide_eq_true (by omega)
      simp [c, d2, h4, Tryz.results156]
  · obtain rfl : i = z := by omega
    simp [numR] at h4
    simp [h4, Tryz.results156]
/-- the month that stands at a place; -1: none -/
def findR (s : List UInt8) (f : Nat) : Int := match monIx ((s.drop f).take 3) with
  | some k => k
  | none => -1
theorem mon_at (x : List UInt8) : (∃ k : Nat, k < 12 ∧ monIx x = some k ∧ monB ((k : Int) + 1) = x) ∨ (monIx x = none ∧ ∀ k : Nat, k < 12 → monB ((k : Int) + 1) ≠ x) := by
  by_cases hm : x ∈ monL
  · left
    unfold monIx
    rw [if_pos hm]
    simp only [monL, List.mem_cons, List.not_mem_nil, or_false] at hm
    rcases hm with rfl | rfl | rfl | rfl | rfl | rfl | rfl | rfl | rfl | rfl | rfl | rfl
    all_goals exact ⟨_, by decide, rfl, by decide⟩
  · right
    refine ⟨by unfold monIx; rw [if_neg hm], fun k hk e => hm ?_⟩
    rw [← e]
    rcases (by omega : k = 0 ∨ k = 1 ∨ k = 2 ∨ k = 3 ∨ k = 4 ∨ k = 5 ∨ k = 6 ∨ k = 7 ∨ k = 8 ∨ k = 9 ∨ k = 10 ∨ k = 11) with rfl | rfl | rfl | rfl | rfl | rfl | rfl | rfl | rfl | rfl | rfl | rfl
    all_goals decide
theorem mon_inj {k j : Nat} (hk : k < 12) (hj : j < 12) (h : monB ((k : Int) + 1) = monB ((j : Int) + 1)) : k = j := by
  have key : ((List.range 12).all fun k => (List.range 12).all fun j => decide (monB ((k : Int) + 1) = monB ((j : Int) + 1) → k = j)) = true := by kernel_rfl
  have h1 := List.all_eq_true.1 key k (by simpa using hk)
  have h2 := List.all_eq_true.1 h1 j (by simpa using hj)
  exact of_decide_eq_true h2 h
theorem mon_len3 {k : Nat} (hk : k < 12) : (monB ((k : Int) + 1)).length = 3 := by
  have key : ((List.range 12).all fun k => decide ((monB ((k : Int) + 1)).length = 3)) = true := by kernel_rfl
  have h1 := List.all_eq_true.1 key k (by simpa using hk)
  exact of_decide_eq_true h1
theorem rfind157 (s : List UInt8) (f : Nat) (hs : s.length ≤ 1000000) (hf : f ≤ 1000000) : PureC Tryz.prog 157 [.str s, .int f] (.int (findR s f)) := by
  refine pure_of_aw (ys := [_]) [] [] [] mixed Tryz.func157 rfl (by kernel_rfl) (by kernel_rfl) (by simp [Tryz.ntmps157]) rfl ?_
  obtain ⟨R, hR⟩ : ∃ R, R = findR s f := ⟨_, rfl⟩
  rw [← hR]
  unfold findR at hR
  have hx := mon_at ((s.drop f).take 3)
  have w3 : IntKind.i64.wrap ((f : Int) + 3) = ((f + 3 : Nat) : Int) := by rw [wrap64_id (by omega) (by omega)]; rfl
  simp
  refine aw_loop0 (fun j : Nat => j ≤ 12 ∧ ∀ k : Nat, k < j → monB ((k : Int) + 1) ≠ (s.drop f).take 3) (fun j => [(0, .p (.str s)), (1, .p (.int f)), (5, .p (.int j))]) (fun j => 12 - j) 0 ⟨by simp, by simp⟩ (leN_id (by simp)) ?_
  rintro j ⟨h1, h2⟩
  by_cases c : j < 12
  · have w2 : IntKind.i64.wrap ((j : Int) + 1) = ((j + 1 : Nat) : Int) := by rw [wrap64_id (by omega) (by omega)]; rfl
    have hm := rmonth210 (j : Int) (by omega) (by omega)
    have c' : ((j : Int) < 12) := by omega
    by_cases cl : f + 3 ≤ s.length
    · have d1 : decide ((f : Int) + 3 ≤ (s.length : Int)) = true := decide_eq_true (by omega)
      have tk : List.drop f (List.take ((f : Int) + 3).toNat s) = (s.drop f).take 3 := by
        rw [show ((f : Int) + 3).toNat = f + 3 by omega, List.drop_take, show f + 3 - f = 3 by omega]
      simp [c', w3, d1]
      refine ⟨by omega, by omega, by omega, ?_⟩
      refine call_of hm ?_
      rw [tk]
      generalize (s.drop f).take 3 = x at *
      by_cases e : monB ((j : Int) + 1) = x
      · have hj : monIx x = some j := by
          rcases hx with ⟨k, hk, e1, e2⟩ | ⟨_, e2⟩
          · rw [e1, mon_inj hk c (e2.trans e.symm)]
          · exact absurd e (e2 j c)
        rw [hj] at hR
        simp [e, hR, Tryz.results157]
      · have d : (x == monB ((j : Int) + 1)) = false := by simpa using fun h => e h.symm
        simp [d, w2]
        refine ⟨j + 1, ⟨by omega, fun k hk => ?_⟩, by omega, leN_id (by simp)⟩
        rcases (by omega : k < j ∨ k = j) with h | rfl
        · exact h2 k h
        · exact e
    · have d1 : decide ((f : Int) + 3 ≤ (s.length : Int)) = false := decide_eq_false (by omega)
      simp [c', w3, d1, w2]
      refine ⟨j + 1, ⟨by omega, fun k hk e => ?_⟩, by omega, leN_id (by simp)⟩
      have h3 := mon_len3 (k := k) (by omega)
      have := congrArg List.length e
      rw [h3] at this
      simp at this
      omega
  · obtain rfl : j = 12 := by omega
    have hn : monIx ((s.drop f).take 3) = none := by
      rcases hx with ⟨k, hk, _, e⟩ | ⟨e, _⟩
      · exact absurd e (h2 k hk)
      · exact e
    rw [hn] at hR
    simp [hR, Tryz.results157]
end Go.Av

/-! part Z143 -/
namespace Go.Av
open Go.Proofs
set_option maxRecDepth 100000
theorem ahead_400 {y : Int} (h : 1 ≤ y) : aheadB (y + 400) = aheadB y + 146097 := by
  rw [ahead_eq h, ahead_eq (by omega)]
  omega
theorem ahead_1970 : aheadB 1970 = 0 := by decide
theorem ahead_bd {y : Int} (h : 1970 ≤ y) (h2 : y ≤ 10000) : 0 ≤ aheadB y ∧ aheadB y ≤ 2932897 := by
  have e : aheadB 10000 = 2932897 := by decide
  have e2 := ahead_1970
  constructor
  · rcases (by omega : y = 1970 ∨ 1970 < y) with h | h
    · rw [h, e2]; omega
    · have := ahead_lt (y := 1970) (z := y) (by omega) h; omega
  · rcases (by omega : y = 10000 ∨ y < 10000) with h | h
    · rw [h, e]; omega
    · have := ahead_lt (y := y) (z := 10000) (by omega) h; omega
def momOk (y m d h mi se : Int) : Bool := !(decide (y < 1970) || decide (m < 0) || decide (d < 1) || decide (lenB y (m + 1) < d) || decide (h < 0) || decide (23 < h) || decide (mi < 0) || decide (59 < mi) || decide (se < 0) || decide (59 < se))
def momR (y m d h mi se : Int) : Int := if momOk y m d h mi se = true then joinB ⟨y, m + 1, d, h, mi, se, 0⟩ else -1
structure PIn (y m d h mi se : Int) : Prop where
  y : -1 ≤ y ∧ y ≤ 9999
  m : -1 ≤ m ∧ m ≤ 11
  d : -1 ≤ d ∧ d ≤ 9999
  h : -1 ≤ h ∧ h ≤ 9999
  mi : -1 ≤ mi ∧ mi ≤ 9999
  s : -1 ≤ se ∧ se ≤ 9999
set_option maxHeartbeats 4000000 in
theorem rmoment155 (y m d h mi se : Int) (hp : PIn y m d h mi se) : PureC Tryz.prog 155 [.int y, .int m, .int d, .int h, .int mi, .int se] (.int (momR y m d h mi se)) := by
  obtain ⟨p1, p2, p3, p4, p5, p6⟩ := hp
  refine pure_of_aw (ys := [_]) [] [] [] mixed Tryz.func155 rfl (by kernel_rfl) (by kernel_rfl) (by simp [Tryz.ntmps155]) rfl ?_
  obtain ⟨R, hR⟩ : ∃ R, R = momR y m d h mi se := ⟨_, rfl⟩
  rw [← hR]
  unfold momR momOk at hR
  simp
  cases e1 : decide (y < 1970) with
  | true => simp [e1] at hR; simp [e1, hR, Tryz.results155]
  | false =>
  cases e2 : decide (m < 0) with
  | true => simp [e2] at hR; simp [e1, e2, hR, Tryz.results155]
  | false =>
  cases e3 : decide (d < 1) with
  | true => simp [e3] at hR; simp [e1, e2, e3, hR, Tryz.results155]
  | false =>
  have f1 := of_decide_eq_false e1
  have f2 := of_decide_eq_false e2
  have f3 := of_decide_eq_false e3
  have hl := rlong208 y m (by omega) (by omega) (by omega)
  simp [e1, e2, e3]
  refine pcall_of hl (by simp) ?_
  cases e4 : decide (lenB y (m + 1) < d) with
  | true => simp [e4] at hR; simp [e4, hR, Tryz.results155]
  | false =>
  cases e5 : decide (h < 0) with
  | true => simp [e5] at hR; simp [e4, e5, hR, Tryz.results155]
  | false =>
  cases e6 : decide (23 < h) with
  | true => simp [e6] at hR; simp [e4, e5, e6, hR, Tryz.results155]
  | false =>
  cases e7 : decide (mi < 0) with
  | true => simp [e7] at hR; simp [e4, e5, e6, e7, hR, Tryz.results155]
  | false =>
  cases e8 : decide (59 < mi) with
  | true => simp [e8] at hR; simp [e4, e5, e6, e7, e8, hR, Tryz.results155]
  | false =>
  cases e9 : decide (se < 0) with
  | true => simp [e9] at hR; simp [e4, e5, e6, e7, e8, e9, hR, Tryz.results155]
  | false =>
  cases e10 : decide (59 < se) with
  | true => simp [e10] at hR; simp [e4, e5, e6, e7, e8, e9, e10, hR, Tryz.results155]
  | false =>
  rw [if_pos (by simp only [e1, e2, e3, e4, e5, e6, e7, e8, e9, e10]; rfl)] at hR
  have f4 := of_decide_eq_false e4
  have f5 := of_decide_eq_false e5
  have f6 := of_decide_eq_false e6
  have f7 := of_decide_eq_false e7
  have f8 := of_decide_eq_false e8
  have f9 := of_decide_eq_false e9
  have f10 := of_decide_eq_false e10
  have hlb := len_b y (m + 1)
  have wd : IntKind.i64.wrap (d - 1) = d - 1 := wrap64_id (by omega) (by omega)
  simp [e4, e5, e6, e7, e8, e9, e10, wd]
  clear e1 e2 e3 e4 e5 e6 e7 e8 e9 e10
  refine aw_loop0 (fun k : Int => 1970 ≤ k ∧ k ≤ y) (fun k => [(0, .p (.int y)), (1, .p (.int m)), (3, .p (.int h)), (4, .p (.int mi)), (5, .p (.int se)), (13, .p (.int (d - 1 + aheadB k))), (14, .p (.int k))]) (fun k => (y - k).toNat) 1970 ⟨by omega, by omega⟩ (leN_id (by simp [ahead_1970])) ?_
  rintro k ⟨g1, g2⟩
  have hab := ahead_bd (y := k) g1 (by omega)
  have wk : IntKind.i64.wrap (k + 400) = k + 400 := wrap64_id (by omega) (by omega)
  by_cases c : k + 400 ≤ y
  · have wn : IntKind.i64.wrap (d - 1 + aheadB k + 146097) = d - 1 + aheadB k + 146097 := wrap64_id (by omega) (by omega)
    simp [c, wk, wn]
    refine ⟨k + 400, ⟨by omega, c⟩, by omega, leN_id ?_⟩
    simp [ahead_400 (y := k) (by omega)]
    omega
  simp [c, wk]
  clear wk hab
  refine aw_loop0 (fun k : Int => 1970 ≤ k ∧ k ≤ y) (fun k => [(0, .p (.int y)), (1, .p (.int m)), (3, .p (.int h)), (4, .p (.int mi)), (5, .p (.int se)), (13, .p (.int (d - 1 + aheadB k))), (14, .p (.int k))]) (fun k => (y - k).toNat) k ⟨g1, g2⟩ (leN_id (by simp)) ?_
  clear c g1 g2 k
  rintro k ⟨g1, g2⟩
  have hab := ahead_bd (y := k) g1 (by omega)
  by_cases c : k < y
  · have hl2 := len_b k 2
    have hy2 := ryear209 k (by omega)
    have wk : IntKind.i64.wrap (k + 1) = k + 1 := wrap64_id (by omega) (by omega)
    have wn : IntKind.i64.wrap (d - 1 + aheadB k + (337 + lenB k 2)) = d - 1 + aheadB k + (337 + lenB k 2) := wrap64_id (by omega) (by omega)
    simp [c]
    refine pcall_of hy2 (by simp) ?_
    simp [wk, wn]
    refine ⟨k + 1, ⟨by omega, by omega⟩, by omega, leN_id ?_⟩
    simp [ahead_step (y := k) (by omega)]
    omega
  obtain rfl : k = y := by omega
  simp
  obtain ⟨M, rfl⟩ : ∃ M : Nat, m = M := ⟨m.toNat, by omega⟩
  refine aw_loop0 (fun i : Nat => i ≤ M) (fun i => [(0, .p (.int k)), (1, .p (.int M)), (3, .p (.int h)), (4, .p (.int mi)), (5, .p (.int se)), (13, .p (.int (d - 1 + aheadB k + sumM k i))), (15, .p (.int i))]) (fun i => M - i) 0 (by omega) (leN_id (by simp [sumM])) ?_
  clear c
  intro i hi
  have hsm : 0 ≤ sumM k i ∧ sumM k i ≤ 31 * i := sum_b k i
  by_cases c : i < M
  · have hl2 := len_b k (i + 1)
    have hl3 := rlong208 k (i : Int) (by omega) (by omega) (by omega)
    have wi : IntKind.i64.wrap ((i : Int) + 1) = ((i + 1 : Nat) : Int) := by rw [wrap64_id (by omega) (by omega)]; rfl
    have wn : IntKind.i64.wrap (d - 1 + aheadB k + sumM k i + lenB k (i + 1)) = d - 1 + aheadB k + sumM k i + lenB k (i + 1) := wrap64_id (by omega) (by omega)
    simp [c]
    refine pcall_of hl3 (by simp) ?_
    simp [wi, wn]
    refine ⟨i + 1, by omega, by omega, leN_id ?_⟩
    simp [sumM]
    omega
  obtain rfl : i = M := by omega
  have hj : R = (d - 1 + aheadB k + sumM k i) * 86400 + h * 3600 + mi * 60 + se := by
    rw [hR]
    show (aheadB k + sumM k ((i : Int) + 1 - 1).toNat + d - 1) * 86400 + h * 3600 + mi * 60 + se = _
    rw [show ((i : Int) + 1 - 1).toNat = i by omega]
    omega
  have v1 : IntKind.i64.wrap ((d - 1 + aheadB k + sumM k i) * 86400) = (d - 1 + aheadB k + sumM k i) * 86400 := wrap64_id (by omega) (by omega)
  have v2 : IntKind.i64.wrap (h * 3600) = h * 3600 := wrap64_id (by omega) (by omega)
  have v3 : IntKind.i64.wrap ((d - 1 + aheadB k + sumM k i) * 86400 + h * 3600) = (d - 1 + aheadB k + sumM k i) * 86400 + h * 3600 := wrap64_id (by omega) (by omega)
  have v4 : IntKind.i64.wrap (mi * 60) = mi * 60 := wrap64_id (by omega) (by omega)
  have v5 : IntKind.i64.wrap ((d - 1 + aheadB k + sumM k i) * 86400 + h * 3600 + mi * 60) = (d - 1 + aheadB k + sumM k i) * 86400 + h * 3600 + mi * 60 := wrap64_id (by omega) (by omega)
  have v6 : IntKind.i64.wrap ((d - 1 + aheadB k + sumM k i) * 86400 + h * 3600 + mi * 60 + se) = (d - 1 + aheadB k + sumM k i) * 86400 + h * 3600 + mi * 60 + se := wrap64_id (by omega) (by omega)
  simp [v1, v2, v3, v4, v5, v6, hj, Tryz.results155]
end Go.Av

/-! part Z144 -/
namespace Go.Av
open Go.Proofs
set_option maxRecDepth 100000
theorem ahead_mono {y z : Int} (h : 1 ≤ y) (hz : y ≤ z) : aheadB y ≤ aheadB z := by
  rcases (by omega : y = z ∨ y < z) with e | e
  · rw [e]; exact Int.le_refl _
  · have := ahead_lt h e; omega
set_option maxHeartbeats 2000000 in
theorem rwhen211 (c : Civ) (hc : COk c) : PureC Tryz.prog 211 [.int (joinB c)] (.tp [.int c.y, .int (c.mo - 1), .int c.d, .int ((dayB c + 4) % 7)]) := by
  have hb := join_b hc
  have hd := day_b hc
  have hj := (join_div hc).1
  obtain ⟨q1, q2, q3, q4, q5, q6, q7⟩ := hc
  have hab := ahead_bd q1 (by omega)
  have hdd : dayB c = aheadB c.y + sumM c.y (c.mo - 1).toNat + c.d - 1 := rfl
  have hstep := ahead_step (y := c.y) (by omega)
  have hl2 := len_b c.y 2
  generalize hM : (c.mo - 1).toNat = M at *
  have hmo : c.mo = (M : Int) + 1 := by omega
  rw [hmo] at q4 ⊢
  have hsb := sum_b c.y M
  have hlb := len_b c.y ((M : Int) + 1)
  generalize dayB c = D at *
  generalize joinB c = T at *
  generalize c.y = Y at *
  generalize c.d = dd at *
  have t1 : T.tdiv 86400 = D := by rw [Int.tdiv_eq_ediv_of_nonneg hb.1]; exact hj
  have w4 : IntKind.i64.wrap (D + 4) = D + 4 := wrap64_id (by omega) (by omega)
  have t2 : (D + 4).tmod 7 = (D + 4) % 7 := Int.tmod_eq_emod_of_nonneg (by omega)
  have wD : IntKind.i64.wrap D = D := wrap64_id (by omega) (by omega)
  refine pure_of_aw (ys := [_, _, _, _]) [] [] [] mixed Tryz.func211 rfl (by kernel_rfl) (by kernel_rfl) (by simp [Tryz.ntmps211]) rfl ?_
  simp [t1, wD, w4, t2]
  refine aw_loop0 (fun k : Int => 1970 ≤ k ∧ k ≤ Y) (fun k => [(6, .p (.int (D - aheadB k))), (7, .p (.int ((D + 4) % 7))), (8, .p (.int k))]) (fun k => (Y - k).toNat) 1970 ⟨by omega, by omega⟩ (leN_id (by simp [ahead_1970])) ?_
  rintro k ⟨g1, g2⟩
  have hk := ahead_bd (y := k) g1 (by omega)
  by_cases cc : 146097 ≤ D - aheadB k
  · have h4 := ahead_400 (y := k) (by omega)
    have hle : k + 400 ≤ Y := by
      rcases Int.lt_or_le Y (k + 400) with h | h
      · have := ahead_mono (y := Y + 1) (z := k + 400) (by omega) (by omega); omega
      · exact h
    have wk : IntKind.i64.wrap (k + 400) = k + 400 := wrap64_id (by omega) (by omega)
    have wn : IntKind.i64.wrap (D - aheadB k - 146097) = D - aheadB k - 146097 := wrap64_id (by omega) (by omega)
    simp [cc, wk, wn]
    refine ⟨k + 400, ⟨by omega, hle⟩, by omega, leN_id ?_⟩
    simp [h4]
    omega
  simp [cc]
  refine aw_loop0 (fun k : Int => 1970 ≤ k ∧ k ≤ Y) (fun k => [(6, .p (.int (D - aheadB k))), (7, .p (.int ((D + 4) % 7))), (8, .p (.int k))]) (fun k => (Y - k).toNat) k ⟨g1, g2⟩ (leN_id (by simp)) ?_
  clear cc hk g1 g2 k
  rintro k ⟨g1, g2⟩
  have hk := ahead_bd (y := k) g1 (by omega)
  have hlk := len_b k 2
  have hs := ahead_step (y := k) (by omega)
  have hy2 := ryear209 k (by omega)
  simp
  refine pcall_of hy2 (by simp) ?_
  by_cases cc : 337 + lenB k 2 ≤ D - aheadB k
  · have hle : k + 1 ≤ Y := by
      rcases Int.lt_or_le Y (k + 1) with h | h
      · have := ahead_mono (y := Y + 1) (z := k + 1) (by omega) (by omega); omega
      · exact h
    have wk : IntKind.i64.wrap (k + 1) = k + 1 := wrap64_id (by omega) (by omega)
    have wn : IntKind.i64.wrap (D - aheadB k - (337 + lenB k 2)) = D - aheadB k - (337 + lenB k 2) := wrap64_id (by omega) (by omega)
    simp [cc]
    refine pcall_of hy2 (by simp) ?_
    simp [wk, wn]
    refine ⟨k + 1, ⟨by omega, hle⟩, by omega, leN_id ?_⟩
    simp [hs]
    omega
  have hkY : k = Y := by
    rcases (by omega : k = Y ∨ k + 1 ≤ Y) with h | h
    · exact h
    · have := ahead_mono (y := k + 1) (z := Y) (by omega) h; omega
  subst hkY
  simp [cc]
  clear cc hk hs hy2 hlk
  refine aw_loop0 (fun i : Nat => i ≤ M) (fun i => [(6, .p (.int (D - aheadB k - sumM k i))), (7, .p (.int ((D + 4) % 7))), (8, .p (.int k)), (9, .p (.int i))]) (fun i => M - i) 0 (by omega) (leN_id (by simp [sumM])) ?_
  intro i hi
  have hsm : 0 ≤ sumM k i ∧ sumM k i ≤ 31 * i := sum_b k i
  have hl3 := rlong208 k (i : Int) (by omega) (by omega) (by omega)
  have hli := len_b k (i + 1)
  simp
  refine pcall_of hl3 (by simp) ?_
  by_cases ci : i < M
  · have hmn := sum_mono k (a := i + 1) (b := M) (by omega)
    have hse : sumM k (i + 1) = sumM k i + lenB k ((i : Int) + 1) := by simp [sumM]
    have cc : lenB k ((i : Int) + 1) ≤ D - aheadB k - sumM k i := by omega
    have wi : IntKind.i64.wrap ((i : Int) + 1) = ((i + 1 : Nat) : Int) := by rw [wrap64_id (by omega) (by omega)]; rfl
    have wn : IntKind.i64.wrap (D - aheadB k - sumM k i - lenB k ((i : Int) + 1)) = D - aheadB k - sumM k i - lenB k ((i : Int) + 1) := wrap64_id (by omega) (by omega)
    simp [cc]
    refine pcall_of hl3 (by simp) ?_
    simp [wi, wn]
    refine ⟨i + 1, by omega, by omega, leN_id ?_⟩
    simp [hse]
    omega
  obtain rfl : i = M := by omega
  have cc : ¬ lenB k ((i : Int) + 1) ≤ D - aheadB k - sumM k i := by omega
  have wn : IntKind.i64.wrap (D - aheadB k - sumM k i + 1) = D - aheadB k - sumM k i + 1 := wrap64_id (by omega) (by omega)
  simp [cc, wn, Tryz.results211]
  omega
end Go.Av

/-! part Z145 -/
namespace Go.Av
open Go.Proofs
set_option maxRecDepth 100000
theorem dig_p2 {n : Int} (h0 : 0 ≤ n) (h1 : n < 100) : PureC Tryz.prog 212 [.int n, .int 2] (.str (p2 n)) := by
  have h := rdig212 n.toNat 2 (by omega) (by omega)
  rw [← pad_dig 1 n.toNat (by simp; omega), show ((n.toNat : Nat) : Int) = n by omega] at h
  exact h
theorem dig_p4 {n : Int} (h0 : 0 ≤ n) (h1 : n < 10000) : PureC Tryz.prog 212 [.int n, .int 4] (.str (p4 n)) := by
  have h := rdig212 n.toNat 4 (by omega) (by omega)
  rw [← pad_dig 3 n.toNat (by simp; omega), show ((n.toNat : Nat) : Int) = n by omega] at h
  exact h
theorem p2_len (n : Int) (h0 : 0 ≤ n) (h1 : n < 100) : (p2 n).length = 2 := by
  unfold p2
  rw [pad_dig 1 n.toNat (by simp; omega)]
  simp [digR]
set_option maxHeartbeats 4000000 in
theorem rform158 (c : Civ) (hc : COk c) (k : Int) (hk : k = 0 ∨ k = 1 ∨ k = 2) : PureC Tryz.prog 158 [.int (joinB c), .int k] (.str (fmK k (wkd c))) := by
  have hw := rwhen211 c hc
  have hb := join_b hc
  have hr := (join_div hc).2
  have hdb := day_b hc
  obtain ⟨q1, q2, q3, q4, q5, q6, q7⟩ := hc
  have hlb := len_b c.y c.mo
  have hdy : PureC Tryz.prog 159 [.int ((dayB c + 4) % 7)] (.str (wdB (dayB c % 7))) := by
    have h := rday159 ((dayB c + 4) % 7) (by omega) (by omega)
    rw [show ((dayB c + 4) % 7 + 3) % 7 = dayB c % 7 by omega] at h
    exact h
  have hwl := wd_3 (dayB c % 7) (by omega) (by omega)
  have hwl2 := wd_len (dayB c % 7)
  have hmn : PureC Tryz.prog 210 [.int (c.mo - 1)] (.str (monB c.mo)) := by
    have h := rmonth210 (c.mo - 1) (by omega) (by omega)
    rw [show c.mo - 1 + 1 = c.mo by omega] at h
    exact h
  have hml := mon_len c.mo
  have d1 := dig_p2 (n := c.h) (by omega) (by omega)
  have d2 := dig_p2 (n := c.mi) (by omega) (by omega)
  have d3 := dig_p2 (n := c.s) (by omega) (by omega)
  have d4 := dig_p2 (n := c.d) (by omega) (by omega)
  have d5 := dig_p4 (n := c.y) (by omega) (by omega)
  have d6 := dig_p2 (n := c.y % 100) (by omega) (by omega)
  have l1 := p2_len c.h (by omega) (by omega)
  have l2 := p2_len c.mi (by omega) (by omega)
  have l3 := p2_len c.s (by omega) (by omega)
  have l4 := p2_len c.d (by omega) (by omega)
  have l6 := p2_len (c.y % 100) (by omega) (by omega)
  have l5 : (p4 c.y).length = 4 := by unfold p4; rw [pad_dig 3 c.y.toNat (by simp; omega)]; simp [digR]
  have t0 : (joinB c).tmod 86400 = c.h * 3600 + c.mi * 60 + c.s := by rw [Int.tmod_eq_emod_of_nonneg hb.1]; exact hr
  have t1 : (c.h * 3600 + c.mi * 60 + c.s).tdiv 3600 = c.h := by rw [Int.tdiv_eq_ediv_of_nonneg (by omega)]; omega
  have t2 : (c.h * 3600 + c.mi * 60 + c.s).tdiv 60 = c.h * 60 + c.mi := by rw [Int.tdiv_eq_ediv_of_nonneg (by omega)]; omega
  have t3 : (c.h * 60 + c.mi).tmod 60 = c.mi := by rw [Int.tmod_eq_emod_of_nonneg (by omega)]; omega
  have t4 : (c.h * 3600 + c.mi * 60 + c.s).tmod 60 = c.s := by rw [Int.tmod_eq_emod_of_nonneg (by omega)]; omega
  have t5 : c.y.tmod 100 = c.y % 100 := Int.tmod_eq_emod_of_nonneg (by omega)
  have w1 : IntKind.i64.wrap c.h = c.h := wrap64_id (by omega) (by omega)
  have w2 : IntKind.i64.wrap (c.h * 60 + c.mi) = c.h * 60 + c.mi := wrap64_id (by omega) (by omega)
  have hds : dshB c.d = if c.d < 10 then 32 :: (p2 c.d).drop 1 else p2 c.d := rfl
  have hC : clkS (wkd c) = p2 c.h ++ 58 :: (p2 c.mi ++ 58 :: p2 c.s) := rfl
  have hf0 : fmK 0 (wkd c) = (wdB (dayB c % 7)).take 3 ++ 44 :: 32 :: (p2 c.d ++ 32 :: (monB c.mo ++ 32 :: (p4 c.y ++ 32 :: (clkS (wkd c) ++ gmtB)))) := rfl
  have hf1 : fmK 1 (wkd c) = wdB (dayB c % 7) ++ 44 :: 32 :: (p2 c.d ++ 45 :: (monB c.mo ++ 45 :: (p2 (c.y % 100) ++ 32 :: (clkS (wkd c) ++ gmtB)))) := rfl
  have hf2 : fmK 2 (wkd c) = (wdB (dayB c % 7)).take 3 ++ 32 :: (monB c.mo ++ 32 :: (dshB c.d ++ 32 :: (clkS (wkd c) ++ 32 :: p4 c.y))) := rfl
  rw [hC] at hf0 hf1 hf2
  rw [hds] at hf2
  clear hC hds
  generalize (dayB c + 4) % 7 = wn at *
  generalize wdB (dayB c % 7) = W at *
  generalize monB c.mo = MO at *
  generalize p2 c.h = H at *
  generalize p2 c.mi = MI at *
  generalize p2 c.s = SE at *
  generalize p2 c.d = DD at *
  generalize p4 c.y = Y4 at *
  generalize p2 (c.y % 100) = Y2 at *
  refine pure_of_aw (ys := [_]) [] [] [] mixed Tryz.func158 rfl (by kernel_rfl) (by kernel_rfl) (by simp [Tryz.ntmps158]) rfl ?_
  simp
  refine pcall_of hw (by simp) ?_
  simp [t0, t1, t2, t3, t4, w1, w2]
  refine pcall_of d1 (by simp) ?_
  simp [t2, t3, w2, l1]
  refine pcall_of d2 (by simp) ?_
  simp [t4, l1, l2]
  refine pcall_of d3 (by simp) ?_
  simp [l1, l2, l3]
  rcases hk with rfl | rfl | rfl
  · rw [hf0]
    simp
    refine call_of hdy ?_
    simp [hwl, l1, l2, l3, l4, l5]
    repeat' (first | refine ⟨by omega, ?_⟩ | fail)
    refine call_of d4 ?_
    simp [hwl, l1, l2, l3, l4, l5]
    repeat' (first | refine ⟨by omega, ?_⟩ | fail)
    refine call_of hmn ?_
    simp [hwl, l1, l2, l3, l4, l5]
    repeat' (first | refine ⟨by omega, ?_⟩ | fail)
    refine call_of d5 ?_
    simp [hwl, l1, l2, l3, l4, l5, gmtB, Tryz.results158]
    omega
  · rw [hf1]
    simp [t5]
    refine pcall_of hdy (by simp) ?_
    simp [l1, l2, l3, l4, l6]
    repeat' (first | refine ⟨by omega, ?_⟩ | fail)
    refine pcall_of d4 (by simp) ?_
    simp [l1, l2, l3, l4, l6]
    repeat' (first | refine ⟨by omega, ?_⟩ | fail)
    refine pcall_of hmn (by simp) ?_
    simp [l1, l2, l3, l4, l6, t5]
    repeat' (first | refine ⟨by omega, ?_⟩ | fail)
    refine pcall_of d6 (by simp) ?_
    simp [l1, l2, l3, l4, l6, gmtB, Tryz.results158]
    omega
  · rw [hf2]
    simp
    refine pcall_of d4 (by simp) ?_
    by_cases cd : c.d < 10
    · simp [cd, l4]
      refine call_of hdy ?_
      simp [hwl, l1, l2, l3, l4, l5]
      repeat' (first | refine ⟨by omega, ?_⟩ | fail)
      refine call_of hmn ?_
      simp [hwl, l1, l2, l3, l4, l5]
      repeat' (first | refine ⟨by omega, ?_⟩ | fail)
      refine call_of d5 ?_
      simp [hwl, l1, l2, l3, l4, l5, Tryz.results158]
      omega
    · simp [cd, l4]
      refine call_of hdy ?_
      simp [hwl, l1, l2, l3, l4, l5]
      repeat' (first | refine ⟨by omega, ?_⟩ | fail)
      refine call_of hmn ?_
      simp [hwl, l1, l2, l3, l4, l5]
      repeat' (first | refine ⟨by omega, ?_⟩ | fail)
      refine call_of d5 ?_
      simp [hwl, l1, l2, l3, l4, l5, Tryz.results158]
      omega
end Go.Av

/-! part Z146 -/
namespace Go.Av
open Go.Proofs
set_option maxRecDepth 100000
theorem numR_b (s : List UInt8) : ∀ (k j a v : Nat), v < 10 ^ j → -1 ≤ numR s k a v ∧ numR s k a v < ((10 ^ (j + k) : Nat) : Int)
  | 0, j, a, v, h => by simp only [numR, Nat.add_zero]; omega
  | k + 1, j, a, v, h => by
    have hp : 1 ≤ 10 ^ (j + (k + 1)) := Nat.one_le_pow _ _ (by omega)
    simp only [numR]
    split
    · omega
    · rename_i c _
      split
      · omega
      · have := numR_b s k (j + 1) (a + 1) (v * 10 + (c.toNat - 48)) (by rw [Nat.pow_succ]; omega)
        rw [show j + (k + 1) = j + 1 + k by omega]
        exact this
theorem num2_b (s : List UInt8) (a : Nat) : -1 ≤ numR s 2 a 0 ∧ numR s 2 a 0 ≤ 99 := by
  have := numR_b s 2 0 a 0 (by simp)
  simp at this; omega
theorem num4_b (s : List UInt8) (a : Nat) : -1 ≤ numR s 4 a 0 ∧ numR s 4 a 0 ≤ 9999 := by
  have := numR_b s 4 0 a 0 (by simp)
  simp at this; omega
theorem num1_b (s : List UInt8) (a : Nat) : -1 ≤ numR s 1 a 0 ∧ numR s 1 a 0 ≤ 9 := by
  have := numR_b s 1 0 a 0 (by simp)
  simp at this; omega
theorem find_b (s : List UInt8) (f : Nat) : -1 ≤ findR s f ∧ findR s f ≤ 11 := by
  unfold findR
  rcases mon_at ((s.drop f).take 3) with ⟨k, hk, e, _⟩ | ⟨e, _⟩
  · rw [e]; simp only; omega
  · rw [e]; simp only; omega
def civR (y m d h mi se : Int) : Civ := ⟨y, m + 1, d, h, mi, se, 0⟩
theorem mom_civ {y m d hh mi se : Int} (hp : PIn y m d hh mi se) (h : momOk y m d hh mi se = true) : COk (civR y m d hh mi se) := by
  unfold momOk at h
  simp only [Bool.not_eq_true', Bool.or_eq_false_iff, decide_eq_false_iff_not] at h
  obtain ⟨p1, p2, p3, p4, p5, p6⟩ := hp
  exact ⟨by show 1970 ≤ y; omega, by show y ≤ 9999; omega, ⟨by show 1 ≤ m + 1; omega, by show m + 1 ≤ 12; omega⟩, ⟨by show 1 ≤ d; omega, by show d ≤ lenB y (m + 1); omega⟩, ⟨by show 0 ≤ hh; omega, by show hh < 24; omega⟩, ⟨by show 0 ≤ mi; omega, by show mi < 60; omega⟩, ⟨by show 0 ≤ se; omega, by show se < 60; omega⟩⟩
def hitR (k y m d h mi se : Int) (s : List UInt8) : Bool := momOk y m d h mi se && decide (fmK k (wkd (civR y m d h mi se)) = s)
structure Pt where
  y : Int
  m : Int
  d : Int
  h : Int
  mi : Int
  s : Int
def Pt.hit (p : Pt) (k : Int) (s : List UInt8) : Bool := hitR k p.y p.m p.d p.h p.mi p.s s
def Pt.at (p : Pt) : Int := joinB (civR p.y p.m p.d p.h p.mi p.s)
def pt0 (s : List UInt8) : Pt := ⟨numR s 4 12 0, findR s 8, numR s 2 5 0, numR s 2 17 0, numR s 2 20 0, numR s 2 23 0⟩
def dayD (s : List UInt8) : Int := if s[8]? = some 32 then numR s 1 9 0 else numR s 2 8 0
def pt2 (s : List UInt8) : Pt := ⟨numR s 4 20 0, findR s 4, dayD s, numR s 2 11 0, numR s 2 14 0, numR s 2 17 0⟩
def yr1 (n : Int) : Int := if n < 70 then n + 2000 else n + 1900
def pt1 (s : List UInt8) (k : Nat) : Pt := ⟨yr1 (numR s 2 (k + 9) 0), findR s (k + 5), numR s 2 (k + 2) 0, numR s 2 (k + 12) 0, numR s 2 (k + 15) 0, numR s 2 (k + 18) 0⟩
def dayW (w : Nat) : List UInt8 := wdB (((w : Int) + 3) % 7)
def rlp (s : List UInt8) : Nat → Nat → Int × Int
  | 0, _ => (0, 10)
  | n + 1, w => if s.length = (dayW w).length + 24 ∧ s.take (dayW w).length = dayW w then
      (if numR s 2 ((dayW w).length + 9) 0 < 0 then (0, 10) else if (pt1 s (dayW w).length).hit 1 s = true then ((pt1 s (dayW w).length).at, 0) else rlp s n (w + 1))
    else rlp s n (w + 1)
def rparseB (s : List UInt8) : Int × Int :=
  if s.length = 29 ∧ (pt0 s).hit 0 s = true then ((pt0 s).at, 0) else
  if s.length = 24 ∧ (pt2 s).hit 2 s = true then ((pt2 s).at, 0) else rlp s 7 0
/-- an attempt's walk: the moment, then its form -/
theorem mom_pt {p : Pt} (hp : PIn p.y p.m p.d p.h p.mi p.s) : (momOk p.y p.m p.d p.h p.mi p.s = true ∧ momR p.y p.m p.d p.h p.mi p.s = p.at ∧ 0 ≤ p.at ∧ ∀ k, k = 0 ∨ k = 1 ∨ k = 2 → PureC Tryz.prog 158 [.int p.at, .int k] (.str (fmK k (wkd (civR p.y p.m p.d p.h p.mi p.s))))) ∨ (momOk p.y p.m p.d p.h p.mi p.s = false ∧ momR p.y p.m p.d p.h p.mi p.s = -1) := by
  cases h : momOk p.y p.m p.d p.h p.mi p.s with
  | true =>
    have hc := mom_civ hp h
    exact .inl ⟨rfl, by unfold momR; rw [if_pos h]; rfl, (join_b hc).1, fun k hk => rform158 _ hc k hk⟩
  | false => exact .inr ⟨rfl, by unfold momR; rw [h]; rfl⟩
theorem b99 {n : Int} (h : -1 ≤ n ∧ n ≤ 99) : -1 ≤ n ∧ n ≤ 9999 := ⟨h.1, by omega⟩
theorem pin0 (s : List UInt8) : PIn (pt0 s).y (pt0 s).m (pt0 s).d (pt0 s).h (pt0 s).mi (pt0 s).s := by
  have h1 := num4_b s 12; have h2 := find_b s 8; have h3 := num2_b s 5; have h4 := num2_b s 17; have h5 := num2_b s 20; have h6 := num2_b s 23
  exact ⟨h1, h2, b99 h3, b99 h4, b99 h5, b99 h6⟩
theorem dayD_b (s : List UInt8) : -1 ≤ dayD s ∧ dayD s ≤ 99 := by
  unfold dayD
  have h1 := num1_b s 9
  have h2 := num2_b s 8
  split <;> omega
theorem pin2 (s : List UInt8) : PIn (pt2 s).y (pt2 s).m (pt2 s).d (pt2 s).h (pt2 s).mi (pt2 s).s := by
  have h1 := num4_b s 20; have h2 := find_b s 4; have h3 := dayD_b s; have h4 := num2_b s 11; have h5 := num2_b s 14; have h6 := num2_b s 17
  exact ⟨h1, h2, b99 h3, b99 h4, b99 h5, b99 h6⟩
theorem pin1 (s : List UInt8) (k : Nat) : PIn (pt1 s k).y (pt1 s k).m (pt1 s k).d (pt1 s k).h (pt1 s k).mi (pt1 s k).s := by
  have h1 := num2_b s (k + 9); have h2 := find_b s (k + 5); have h3 := num2_b s (k + 2); have h4 := num2_b s (k + 12); have h5 := num2_b s (k + 15); have h6 := num2_b s (k + 18)
  refine ⟨?_, h2, b99 h3, b99 h4, b99 h5, b99 h6⟩
  show -1 ≤ yr1 _ ∧ yr1 _ ≤ 9999
  unfold yr1
  split <;> omega
end Go.Av

/-! part Z147 -/
namespace Go.Av
open Go.Proofs
set_option maxRecDepth 100000
set_option maxHeartbeats 4000000 in
theorem rparse118 (s : List UInt8) (hs : s.length ≤ 100000) : PureC Tryz.prog 118 [.str s] (.tp [.int (rparseB s).1, .int (rparseB s).2]) := by
  have hp0 := mom_pt (pin0 s)
  have hm0 := rmoment155 _ _ _ _ _ _ (pin0 s)
  have hp2 := mom_pt (pin2 s)
  have hm2 := rmoment155 _ _ _ _ _ _ (pin2 s)
  have n1 := rnum156 s 12 4 (by omega) (by omega) (by omega)
  have n2 := rfind157 s 8 (by omega) (by omega)
  have n3 := rnum156 s 5 2 (by omega) (by omega) (by omega)
  have n4 := rnum156 s 17 2 (by omega) (by omega) (by omega)
  have n5 := rnum156 s 20 2 (by omega) (by omega) (by omega)
  have n6 := rnum156 s 23 2 (by omega) (by omega) (by omega)
  refine pure_of_aw (ys := [_, _]) [] [] [] mixed Tryz.func118 rfl (by kernel_rfl) (by kernel_rfl) (by simp [Tryz.ntmps118]) rfl ?_
  obtain ⟨R, hR⟩ : ∃ R, R = rparseB s := ⟨_, rfl⟩
  rw [← hR]
  unfold rparseB at hR
  simp
  have m1 := rnum156 s 20 4 (by omega) (by omega) (by omega)
  have m2 := rfind157 s 4 (by omega) (by omega)
  have m3 := rnum156 s 9 1 (by omega) (by omega) (by omega)
  have m3' := rnum156 s 8 2 (by omega) (by omega) (by omega)
  have m4 := rnum156 s 11 2 (by omega) (by omega) (by omega)
  have m5 := rnum156 s 14 2 (by omega) (by omega) (by omega)
  have m6 := rnum156 s 17 2 (by omega) (by omega) (by omega)
  by_cases c29 : s.length = 29
  case' pos =>
    have e29 : ((s.length : Int) == 29) = true := by rw [beq_iff_eq]; omega
    have e24 : ((s.length : Int) == 24) = false := by rw [beq_eq_false_iff_ne]; omega
    have c24 : ¬ s.length = 24 := by omega
    simp only [pt0] at hm0 hp0
    simp [e29]
    refine pcall_of n1 (by simp) ?_
    simp
    refine pcall_of n2 (by simp) ?_
    simp
    refine pcall_of n3 (by simp) ?_
    simp
    refine pcall_of n4 (by simp) ?_
    simp
    refine pcall_of n5 (by simp) ?_
    simp
    refine pcall_of n6 (by simp) ?_
    simp
    refine pcall_of hm0 (by simp) ?_
    rcases hp0 with ⟨o1, o2, o3, o4⟩ | ⟨o1, o2⟩
  case' pos.inr =>
    have hL : R = rlp s 7 0 := by
      rw [hR, if_neg (by simp [Pt.hit, hitR, pt0, o1]), if_neg (by simp [c24])]
    simp [o2, e24]
  case' pos.inl =>
    have hform := o4 0 (.inl rfl)
    simp [o2, o3]
    refine pcall_of hform (by simp) ?_
    by_cases hq : (pt0 s).hit 0 s = true
    case pos =>
      rw [if_pos ⟨c29, hq⟩] at hR
      have hq2 := hq
      unfold Pt.hit hitR at hq2
      simp only [Bool.and_eq_true, decide_eq_true_eq, pt0] at hq2
      have hq3 : (fmK 0 (wkd (civR (numR s 4 12 0) (findR s 8) (numR s 2 5 0) (numR s 2 17 0) (numR s 2 20 0) (numR s 2 23 0))) == s) = true := by rw [beq_iff_eq]; exact of_decide_eq_true hq2.2
      simp [hq3, hR, pt0, Tryz.results118]
    have hL : R = rlp s 7 0 := by
      rw [hR, if_neg (by simp [hq]), if_neg (by simp [c24])]
    have hq2 : ¬ fmK 0 (wkd (civR (numR s 4 12 0) (findR s 8) (numR s 2 5 0) (numR s 2 17 0) (numR s 2 20 0) (numR s 2 23 0))) = s := fun e => hq (by unfold Pt.hit hitR; simp only [pt0, o1, Bool.true_and]; exact decide_eq_true e)
    have hq3 : (fmK 0 (wkd (civR (numR s 4 12 0) (findR s 8) (numR s 2 5 0) (numR s 2 17 0) (numR s 2 20 0) (numR s 2 23 0))) == s) = false := by simpa using hq2
    simp [hq3, e24]
  case' neg =>
    have e29 : ((s.length : Int) == 29) = false := by rw [beq_eq_false_iff_ne]; omega
    simp [e29]
    by_cases c24 : s.length = 24
    case' neg =>
      have e24 : ((s.length : Int) == 24) = false := by rw [beq_eq_false_iff_ne]; omega
      have hL : R = rlp s 7 0 := by
        rw [hR, if_neg (by simp [c29]), if_neg (by simp [c24])]
      simp [e24]
    case' pos =>
      have e24 : ((s.length : Int) == 24) = true := by rw [beq_iff_eq]; omega
      have c8 : 8 < s.length := by omega
      rw [if_neg (by simp [c29])] at hR
      simp only [pt2] at hm2 hp2
      simp [e24, c8]
      obtain ⟨v, hv⟩ : ∃ v, v = dayD s := ⟨_, rfl⟩
      have hv2 : ((s[8].toNat : Int) == 32) = true ∧ v = numR s 1 9 0 ∨ ((s[8].toNat : Int) == 32) = false ∧ v = numR s 2 8 0 := by
        unfold dayD at hv
        rw [List.getElem?_eq_getElem c8] at hv
        by_cases c32 : s[8] = 32
        · rw [if_pos (by rw [c32])] at hv
          exact .inl ⟨by rw [c32]; rfl, hv⟩
        · rw [if_neg (fun h => c32 (Option.some.inj h))] at hv
          exact .inr ⟨by rw [beq_eq_false_iff_ne]; intro h; exact c32 (UInt8.toNat_inj.1 (Int.ofNat_inj.1 h)), hv⟩
      rw [← hv] at hm2 hp2
      have hpt : pt2 s = ⟨numR s 4 20 0, findR s 4, v, numR s 2 11 0, numR s 2 14 0, numR s 2 17 0⟩ := by rw [hv]; rfl
      rw [hpt] at hR
      have m3c : PureC Tryz.prog 156 [.str s, .int (if ((s[8].toNat : Int) == 32) = true then 9 else 8), .int 10] (.int v) := by
        rcases hv2 with ⟨h1, h2⟩ | ⟨h1, h2⟩
        · rw [h1, h2]; exact m3
        · rw [h1, h2]; exact m3'
      cases e8 : ((s[8].toNat : Int) == 32)
      all_goals
        simp only [e8, if_true, if_false, Bool.false_eq_true] at m3c
        simp [e8]
        refine pcall_of m1 (by simp) ?_
        simp
        refine pcall_of m2 (by simp) ?_
        simp
        refine pcall_of m3c (by simp) ?_
        simp
        refine pcall_of m4 (by simp) ?_
        simp
        refine pcall_of m5 (by simp) ?_
        simp
        refine pcall_of m6 (by simp) ?_
        simp
        refine pcall_of hm2 (by simp) ?_
        rcases hp2 with ⟨o1, o2, o3, o4⟩ | ⟨o1, o2⟩
        case' inr =>
          have hL : R = rlp s 7 0 := by rw [hR, if_neg (by simp [Pt.hit, hitR, o1])]
          simp [o2]
        case' inl =>
          have hform := o4 2 (.inr (.inr rfl))
          simp [o2, o3]
          refine pcall_of hform (by simp) ?_
          by_cases hq : (⟨numR s 4 20 0, findR s 4, v, numR s 2 11 0, numR s 2 14 0, numR s 2 17 0⟩ : Pt).hit 2 s = true
          case pos =>
            rw [if_pos ⟨c24, hq⟩] at hR
            have hq2 := hq
            unfold Pt.hit hitR at hq2
            simp only [Bool.and_eq_true, decide_eq_true_eq] at hq2
            have hq3 : (fmK 2 (wkd (civR (numR s 4 20 0) (findR s 4) v (numR s 2 11 0) (numR s 2 14 0) (numR s 2 17 0))) == s) = true := by rw [beq_iff_eq]; exact hq2.2
            simp [hq3, hR, Tryz.results118]
          have hL : R = rlp s 7 0 := by rw [hR, if_neg (by simp [hq])]
          have hq3 : (fmK 2 (wkd (civR (numR s 4 20 0) (findR s 4) v (numR s 2 11 0) (numR s 2 14 0) (numR s 2 17 0))) == s) = false := by
            rw [beq_eq_false_iff_ne]
            exact fun e => hq (by unfold Pt.hit hitR; simp only [o1, Bool.true_and]; exact decide_eq_true e)
          simp [hq3]
  all_goals
    clear hR n1 n2 n3 n4 n5 n6 m1 m2 m3 m3' m4 m5 m6
    refine aw_loop0 (fun w : Nat => w ≤ 7 ∧ R = rlp s (7 - w) w) (fun w => [(0, .p (.str s)), (7, .p (.int w))]) (fun w => 7 - w) 0 ⟨by omega, hL⟩ (leN_id (by simp)) ?_
    clear hL
    rintro w ⟨g1, g2⟩
    by_cases cw : w < 7
    case neg =>
      obtain rfl : w = 7 := by omega
      simp only [Nat.sub_self, rlp] at g2
      simp [g2, Tryz.results118]
    have cw' : (w : Int) < 7 := by omega
    rw [show 7 - w = (7 - (w + 1)) + 1 by omega] at g2
    simp only [rlp] at g2
    have hdy : PureC Tryz.prog 159 [.int w] (.str (dayW w)) := rday159 w (by omega) (by omega)
    have hdl : (dayW w).length ≤ 9 := wd_len _
    have hp1 := mom_pt (pin1 s (dayW w).length)
    have hm1 := rmoment155 _ _ _ _ _ _ (pin1 s (dayW w).length)
    generalize dayW w = dw at *
    obtain ⟨k, hk⟩ : ∃ k, k = dw.length := ⟨_, rfl⟩
    rw [← hk] at g2 hp1 hm1 hdl
    have ww : IntKind.i64.wrap ((w : Int) + 1) = ((w + 1 : Nat) : Int) := by rw [wrap64_id (by omega) (by omega)]; rfl
    have wk : ∀ j : Nat, j ≤ 100 → IntKind.i64.wrap ((k : Int) + j) = (k : Int) + j := fun j hj => wrap64_id (by omega) (by omega)
    have w24 := wk 24 (by omega)
    simp [cw']
    refine pcall_of hdy (by simp) ?_
    simp [← hk]
    by_cases cl : s.length = k + 24
    case neg =>
      have d1 : ((s.length : Int) != (k : Int) + 24) = true := by rw [bne_iff_ne]; omega
      rw [if_neg (fun h => cl h.1)] at g2
      simp at w24
      simp [w24, d1, ww]
      exact ⟨w + 1, ⟨by omega, g2⟩, by omega, leN_id (by simp)⟩
    have d1 : ((s.length : Int) != (k : Int) + 24) = false := by simp; omega
    have hks : k ≤ s.length := by omega
    simp at w24
    simp [w24, d1, hks]
    refine call_of hdy ?_
    by_cases ct : s.take k = dw
    case neg =>
      have d2 : (List.take k s != dw) = true := by rw [bne_iff_ne]; exact ct
      rw [if_neg (fun h => ct h.2)] at g2
      simp [d2, ww]
      exact ⟨w + 1, ⟨by omega, g2⟩, by omega, leN_id (by simp)⟩
    have d2 : (List.take k s != dw) = false := by simpa using ct
    rw [if_pos ⟨cl, ct⟩] at g2
    have nm : ∀ a : Nat, a ≤ 100 → PureC Tryz.prog 156 [.str s, .int ((k : Int) + a), .int ((k : Int) + ((a + 2 : Nat) : Int))] (.int (numR s 2 (k + a) 0)) := fun a ha => by
      have h := rnum156 s (k + a) 2 (by omega) (by omega) (by omega)
      rw [show ((k + a + 2 : Nat) : Int) = (k : Int) + ((a + 2 : Nat) : Int) by omega, show ((k + a : Nat) : Int) = (k : Int) + a by omega] at h
      exact h
    have fm : PureC Tryz.prog 157 [.str s, .int ((k : Int) + 5)] (.int (findR s (k + 5))) := rfind157 s (k + 5) (by omega) (by omega)
    have v2 := wk 2 (by omega); have v4 := wk 4 (by omega); have v5 := wk 5 (by omega); have v9 := wk 9 (by omega); have v11 := wk 11 (by omega); have v12 := wk 12 (by omega); have v14 := wk 14 (by omega); have v15 := wk 15 (by omega); have v17 := wk 17 (by omega); have v18 := wk 18 (by omega); have v20 := wk 20 (by omega)
    simp at v2 v4 v5 v9 v11 v12 v14 v15 v17 v18 v20
    have nb := num2_b s (k + 9)
    simp only [pt1] at hm1 hp1
    have hgy : (pt1 s k) = ⟨yr1 (numR s 2 (k + 9) 0), findR s (k + 5), numR s 2 (k + 2) 0, numR s 2 (k + 12) 0, numR s 2 (k + 15) 0, numR s 2 (k + 18) 0⟩ := rfl
    rw [hgy] at g2
    have n9 := nm 9 (by omega)
    generalize numR s 2 (k + 9) 0 = y2 at *
    simp [d2, v9, v11]
    refine pcall_of n9 (by simp) ?_
    by_cases c0 : y2 < 0
    · rw [if_pos c0] at g2
      simp [c0, g2, Tryz.results118]
    rw [if_neg c0] at g2
    have wy : IntKind.i64.wrap (y2 + 100) = y2 + 100 := wrap64_id (by omega) (by omega)
    obtain ⟨Y, hY⟩ : ∃ Y, Y = yr1 y2 := ⟨_, rfl⟩
    rw [← hY] at hm1 hp1 g2
    have wy2 : y2 < 70 → IntKind.i64.wrap (y2 + 100 + 1900) = Y := fun h => by rw [hY, wrap64_id (by omega) (by omega)]; unfold yr1; rw [if_pos h]; omega
    have wy3 : ¬ y2 < 70 → IntKind.i64.wrap (y2 + 1900) = Y := fun h => by rw [hY, wrap64_id (by omega) (by omega)]; unfold yr1; rw [if_neg h]
    clear hY
    by_cases c7 : y2 < 70
    all_goals
      first | have wz := wy2 c7 | have wz := wy3 c7
      clear wy2 wy3
      simp [c0, c7, wy, wz, v5]
      refine pcall_of fm (by simp) ?_
      simp [v2, v4]
      refine pcall_of (nm 2 (by omega)) (by simp) ?_
      simp [v12, v14]
      refine pcall_of (nm 12 (by omega)) (by simp) ?_
      simp [v15, v17]
      refine pcall_of (nm 15 (by omega)) (by simp) ?_
      simp [v18, v20]
      refine pcall_of (nm 18 (by omega)) (by simp) ?_
      simp
      refine pcall_of hm1 (by simp) ?_
      generalize findR s (k + 5) = a1 at *
      generalize numR s 2 (k + 2) 0 = a2 at *
      generalize numR s 2 (k + 12) 0 = a3 at *
      generalize numR s 2 (k + 15) 0 = a4 at *
      generalize numR s 2 (k + 18) 0 = a5 at *
      rcases hp1 with ⟨o1, o2, o3, o4⟩ | ⟨o1, o2⟩
      case' inr =>
        rw [if_neg (by simp [Pt.hit, hitR, o1])] at g2
        simp [o2, ww]
        exact ⟨w + 1, ⟨by omega, g2⟩, by omega, leN_id (by simp)⟩
      case' inl =>
        have hform := o4 1 (.inr (.inl rfl))
        simp [o2, o3]
        refine pcall_of hform (by simp) ?_
        unfold Pt.hit hitR at g2
        simp only [o1, Bool.true_and, decide_eq_true_eq] at g2
        generalize fmK 1 (wkd (civR Y a1 a2 a3 a4 a5)) = Z at *
        by_cases hq : Z = s
        case pos =>
          rw [if_pos hq] at g2
          have hq3 : (Z == s) = true := by rw [beq_iff_eq]; exact hq
          simp [hq3, g2, Tryz.results118]
        rw [if_neg hq] at g2
        have hq3 : (Z == s) = false := by rw [beq_eq_false_iff_ne]; exact hq
        simp [hq3, ww]
        exact ⟨w + 1, ⟨by omega, g2⟩, by omega, leN_id (by simp)⟩
end Go.Av
