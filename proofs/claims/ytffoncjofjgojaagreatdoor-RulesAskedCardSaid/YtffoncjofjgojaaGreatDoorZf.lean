/- FreshLonger computes true; how numbers are read. -/
import Derived.Test.YtffoncjofjgojaaGreatDoorZe
set_option linter.all false
/-! part Z93 -/
namespace Go.Av
open Go.Proofs
set_option maxRecDepth 100000
theorem dec_len : ∀ (k n : Nat), n < 10 ^ (k + 1) → (dec n).length ≤ k + 1
  | 0, n, h => by rw [dec_lt (by simpa using h)]; simp
  | k + 1, n, h => by
    by_cases c : n < 10
    · rw [dec_lt c]; simp
    · rw [dec_ge c, List.length_append]
      have := dec_len k (n / 10) (by rw [Nat.pow_succ] at h; omega)
      simp; omega
def ccF : List UInt8 := [67, 97, 99, 104, 101, 45, 67, 111, 110, 116, 114, 111, 108]
def maF : List UInt8 := [109, 97, 120, 45, 97, 103, 101, 61]
def agedB (s : List UInt8) : Msg := ⟨[], [], 200, [], 1, [(ccF, maF ++ s)], []⟩
theorem aged19 (s : List UInt8) (hs : s.length ≤ 1000000) : PureC Tryz.prog 19 [.str s] (.agg false (msgL (agedB s))) := by
  refine pure_of_aw (ys := [_]) [] [] [] mixed Tryz.func19 rfl (by kernel_rfl) (by kernel_rfl) (by simp [Tryz.ntmps19]) rfl ?_
  simp [agedB, ccF, maF, Tryz.results19]
  exact ⟨by omega, rfl⟩
theorem digits18 (N : Nat) (hNb : N ≤ 9223372036854775807) : PureC Tryz.prog 18 [.int N] (.str (dec N)) := by
  refine pure_of_aw (ys := [_]) [] [] [] mixed Tryz.func18 rfl (by kernel_rfl) (by kernel_rfl) (by simp [Tryz.ntmps18]) rfl ?_
  obtain ⟨R, hR⟩ : ∃ R, R = dec N := ⟨_, rfl⟩
  rw [← hR]
  · simp
    refine aw_loop0 (fun y : Nat × List UInt8 => y.2.length + y.1 ≤ N ∧ (0 < y.1 ∨ y.2 = []) ∧ R = dec y.1 ++ y.2) (fun y => [(0, .p (.int y.1)), (3, .p (.str y.2))]) (fun y => y.1) (N, []) ⟨by simp, .inr rfl, by simp [hR]⟩ (leN_id (by simp)) ?_
    rintro ⟨m, s⟩ ⟨g1, g3, g2⟩
    simp only at g1 g2 g3
    have hsl : 1 + s.length ≤ 9223372036854775807 := by
      rcases g3 with h | rfl
      · omega
      · simp
    have w1 : (m : Int).tmod 10 = ((m % 10 : Nat) : Int) := Int.ofNat_tmod m 10
    have w2 : IntKind.i64.wrap (48 + (m : Int) % 10) = 48 + (m : Int) % 10 := wrap64_id (by omega) (by omega)
    have w3 : IntKind.u8.wrap (48 + (m : Int) % 10) = ((dgc (m % 10)).toNat : Int) := by
      rw [wrapU8_id (by omega) (by omega), digit_nat _ (by omega)]; omega
    have w4 : IntKind.i64.wrap ((m : Int) / 10) = (m : Int) / 10 := wrap64_id (by omega) (by omega)
    simp [w1, w2, w3, w4]
    refine conv_l [dgc (m % 10)] (by simp) (by simp) rfl ?_
    simp [w4]
    by_cases c1 : m < 10
    · have e1 : (m : Int) / 10 = 0 := by omega
      have e2 : m % 10 = m := Nat.mod_eq_of_lt c1
      rw [g2, dec_lt c1]
      simp [e1, e2, hsl, Tryz.results18]
    · have e1 : ((m : Int) / 10 == 0) = false := by simp; omega
      simp [e1]
      refine ⟨hsl, m / 10, dgc (m % 10) :: s, ⟨by simp; omega, .inl (by omega), by rw [g2, dec_ge c1]; simp⟩, by omega, leN_id ?_⟩
      simp
theorem aged_get (s : List UInt8) (n : List UInt8) (h : lowB n ≠ lowB ccF) : getB (agedB s).fs n = [] := by
  have h' : (lowB ccF == lowB n) = false := by simpa using fun e => h e.symm
  simp only [getB, agedB, List.filter_cons, isB, h', Bool.false_eq_true, if_false, List.filter_nil, List.map_nil]
theorem aged_cc (s : List UInt8) : getB (agedB s).fs ccN = [maF ++ s] := by
  have h' : (lowB ccF == lowB ccN) = true := by decide
  simp only [getB, agedB, List.filter_cons, isB, h', if_true, List.filter_nil, List.map_cons, List.map_nil]
theorem low_ne {n : List UInt8} (h : n = datN ∨ n = expN ∨ n = lamN ∨ n = ageN) : lowB n ≠ lowB ccF := by
  rcases h with rfl | rfl | rfl | rfl <;> decide
def D0 : List UInt8 → Int × Int := fun _ => (0, 0)
theorem D0_b : DB D0 := ⟨fun _ => by simp [D0], fun _ => by simp [D0]⟩
theorem aged_one (s : List UInt8) {n : List UInt8} (h : n = datN ∨ n = expN ∨ n = lamN ∨ n = ageN) : oneB (agedB s).fs n = ([], false) := by
  unfold oneB; rw [aged_get s n (low_ne h)]
theorem aged_D (s : List UInt8) : DFs D0 (agedB s).fs :=
  ⟨fun h => (by rw [aged_one s (.inl rfl)] at h; cases h), fun h => (by rw [aged_one s (.inr (.inl rfl))] at h; cases h), fun h => (by rw [aged_one s (.inr (.inr (.inl rfl)))] at h; cases h)⟩
theorem aged_ok (s : List UInt8) (hs : s.length ≤ 100) : FdOk (agedB s).fs := by
  refine ⟨by simp [agedB], ?_, ?_⟩
  · simp [agedB, totB, maF]; omega
  · simp [agedB, ccF]
theorem aged_life (n : Nat) (a g : Int) : lifeB D0 (ofB (agedB (dec n)) a g) = (if (n : Int) ≤ 2147483647 then (n : Int) else 2147483647, true) := by
  have h : saysB (agedB (dec n)).fs = ([false, false, false, false, false, false, false], [if (n : Int) ≤ 2147483647 then (n : Int) else 2147483647, -1, -1, -1]) := by
    unfold saysB
    rw [aged_cc]
    have := parse_max 0 n
    simpa [zer, maF, nm7] using this
  unfold lifeB
  have e : (ofB (agedB (dec n)) a g).c = saysB (agedB (dec n)).fs := rfl
  rw [e, h]
  simp only [List.getD_cons_succ, List.getD_cons_zero]
  rw [if_neg (by omega), if_pos (by split <;> omega)]
theorem aged_age (s : List UInt8) (a g now : Int) : ageB D0 (ofB (agedB s) a g) now = secI (max (clkI g) (clkI a) - clkI a + max (clkI now) (max (clkI g) (clkI a)) - max (clkI g) (clkI a)) := by
  have e1 : (ofB (agedB s) a g).x = agedB s := rfl
  have e2 : (ofB (agedB s) a g).g = max (clkI g) (clkI a) := rfl
  have e3 : (ofB (agedB s) a g).a = clkI a := rfl
  unfold ageB dteB momB toldB nowI
  rw [e1, e2, e3, aged_get s ageN (low_ne (.inr (.inr (.inr rfl)))), aged_one s (.inl rfl)]
  simp only [Bool.false_eq_true, if_false]
  congr 1; omega
theorem fresh_aged (n : Nat) (hn : n ≤ 2147483647) (a g now : Int) : PureC Tryz.prog 16 [.agg false (msgL (agedB (dec n))), .agg false [.int a, .int g], .int now]
    (.bool (decide (secI (max (clkI g) (clkI a) - clkI a + max (clkI now) (max (clkI g) (clkI a)) - max (clkI g) (clkI a)) < (n : Int)))) := by
  have h := Fresh16 D0 D0_b (agedB (dec n)) a g now (aged_ok _ (by have := dec_len 9 n (by omega); omega)) (aged_D _)
  rw [aged_age, aged_life, if_pos (by omega)] at h
  exact h
theorem age_aged (n : Nat) (hn : n ≤ 2147483647) (a g now : Int) : PureC Tryz.prog 15 [.agg false (msgL (agedB (dec n))), .agg false [.int a, .int g], .int now]
    (.int (secI (max (clkI g) (clkI a) - clkI a + max (clkI now) (max (clkI g) (clkI a)) - max (clkI g) (clkI a)))) := by
  have h := Age15 D0 D0_b (agedB (dec n)) a g now (aged_ok _ (by have := dec_len 9 n (by omega); omega)) (aged_D _).dat
  rw [aged_age] at h
  exact h
theorem awake13 : PureC Tryz.prog 13 [] (.bool true) := by
  have h10 : dec 10 = [49, 48] := by rw [dec_ge (by omega), dec_lt (by omega)]; rfl
  have h1 := age_aged 10 (by omega) 100 102 105
  have h2 := fresh_aged 10 (by omega) 100 102 109
  have h3 := fresh_aged 10 (by omega) 100 102 110
  have ha := aged19 [49, 48] (by simp)
  rw [h10] at h1 h2 h3
  refine pure_of_aw (ys := [_]) [] [(2, [(1, .r 1), (6, .r 1), (11, .r 1)])] [(1, 0)] mixed Tryz.func13 rfl (by kernel_rfl) (by kernel_rfl) (by simp [Tryz.ntmps13]) rfl ?_
  generalize agedB [49, 48] = X at *
  have e1 : secI (max (clkI 102) (clkI 100) - clkI 100 + max (clkI 105) (max (clkI 102) (clkI 100)) - max (clkI 102) (clkI 100)) = 5 := by decide
  have e2 : secI (max (clkI 102) (clkI 100) - clkI 100 + max (clkI 109) (max (clkI 102) (clkI 100)) - max (clkI 102) (clkI 100)) = 9 := by decide
  have e3 : secI (max (clkI 102) (clkI 100) - clkI 100 + max (clkI 110) (max (clkI 102) (clkI 100)) - max (clkI 102) (clkI 100)) = 10 := by decide
  rw [e1] at h1
  rw [e2] at h2
  rw [e3] at h3
  simp
  refine call_of ha ?_
  simp
  refine call_of h1 ?_
  simp
  refine call_of ha ?_
  simp
  refine call_of h2 ?_
  simp
  refine call_of ha ?_
  simp
  refine call_of h3 ?_
  simp [Tryz.results13]
def clampX (a : Int) : Nat := (min (max a 0) 2147483647).toNat
theorem law_pq {x y : Nat} {m : Int} (h : x ≤ y) : ((!decide (m < (x : Int)) || decide (m < (y : Int)))) = true := by
  by_cases c : m < (x : Int)
  · have : m < (y : Int) := by omega
    simp [this]
  · simp [c]
theorem longer_core (x y : Nat) (hxy : x ≤ y) (hy : y ≤ 2147483647) (got d : Int) (h0 : 0 ≤ got) (h1 : got ≤ 549755813888) (h2 : 0 ≤ d) (h3 : d ≤ 549755813888) :
    secI (max (clkI got) (clkI got) - clkI got + max (clkI (got + d)) (max (clkI got) (clkI got)) - max (clkI got) (clkI got)) = min d 2147483647 := by
  unfold secI clkI; omega
theorem arrEl30 : arrEl Tryz.prog 30 = some (2, 1, false) := by kernel_rfl
set_option maxHeartbeats 4000000 in
theorem law4 (a b t0 t1 : Int) : PureC Tryz.prog 4 [.int a, .int b, .agg false [.int t0, .int t1]] (.bool true) := by
  refine pure_of_aw (ys := [_]) [] [(10, [(4, .r 1), (11, .r 1)])] [(1, 0)] mixed Tryz.func4 rfl (by kernel_rfl) (by kernel_rfl) (by simp [Tryz.ntmps4]) rfl ?_
  simp
  refine pcall_of awake13 rfl ?_
  obtain ⟨X, hX, hX2⟩ : ∃ X : Nat, (if 2147483647 < if a < 0 then 0 else a then 2147483647 else if a < 0 then 0 else a) = (X : Int) ∧ X ≤ 2147483647 := ⟨clampX a, by unfold clampX; omega, by unfold clampX; omega⟩
  obtain ⟨Y, hY, hY2⟩ : ∃ Y : Nat, (if 2147483647 < if b < 0 then 0 else b then 2147483647 else if b < 0 then 0 else b) = (Y : Int) ∧ Y ≤ 2147483647 := ⟨clampX b, by unfold clampX; omega, by unfold clampX; omega⟩
  obtain ⟨G, hG, hG0, hG2⟩ : ∃ G : Int, (if 549755813888 < if t0 < 0 then 0 else t0 then 549755813888 else if t0 < 0 then 0 else t0) = G ∧ 0 ≤ G ∧ G ≤ 549755813888 := ⟨_, rfl, by omega, by omega⟩
  obtain ⟨E, hE, hE0, hE2⟩ : ∃ E : Int, (if 549755813888 < if t1 < 0 then 0 else t1 then 549755813888 else if t1 < 0 then 0 else t1) = E ∧ 0 ≤ E ∧ E ≤ 549755813888 := ⟨_, rfl, by omega, by omega⟩
  have w1 : IntKind.i64.wrap (G + E) = G + E := wrap64_id (by omega) (by omega)
  have w2 : IntKind.i64.wrap (G + E - G) = E := by rw [wrap64_id (by omega) (by omega)]; omega
  simp [hX, hY]
  by_cases c : Y < X
  · have c' : (Y : Int) < (X : Int) := by omega
    simp [c, c', hG, hE, w1, arrEl30]
    have ax := aged19 (dec Y) (by have := dec_len 9 Y (by omega); omega)
    have ay := aged19 (dec X) (by have := dec_len 9 X (by omega); omega)
    have fx := fresh_aged Y (by omega) G G (G + E)
    have fy := fresh_aged X (by omega) G G (G + E)
    rw [longer_core Y X (by omega) (by omega) G E hG0 hG2 hE0 hE2] at fx fy
    have dx := digits18 Y (by omega)
    have dy := digits18 X (by omega)
    generalize agedB (dec Y) = MX at *
    generalize agedB (dec X) = MY at *
    refine call_of dx ?_
    simp
    refine call_of ax ?_
    simp
    refine call_of fx ?_
    simp
    refine call_of dy ?_
    simp
    refine call_of ay ?_
    simp
    refine call_of fy ?_
    simp
    by_cases p1 : (if 2147483647 < E then 2147483647 else E) < (Y : Int)
    · have p2 : (if 2147483647 < E then 2147483647 else E) < (X : Int) := by omega
      have q1 : min E 2147483647 < (Y : Int) := by omega
      have q2 : min E 2147483647 < (X : Int) := by omega
      simp [w2, p1, p2, q1, q2, Tryz.results4]
    · have q1 : ¬ min E 2147483647 < (Y : Int) := by omega
      by_cases p2 : (if 2147483647 < E then 2147483647 else E) < (X : Int)
      · have q2 : min E 2147483647 < (X : Int) := by omega
        simp [w2, p1, p2, q1, q2, Tryz.results4]
      · have q2 : ¬ min E 2147483647 < (X : Int) := by omega
        simp [w2, p1, p2, q1, q2, Tryz.results4]
  · have c' : ¬ (Y : Int) < (X : Int) := by omega
    simp [c, c', hG, hE, w1, arrEl30]
    have ax := aged19 (dec X) (by have := dec_len 9 X (by omega); omega)
    have ay := aged19 (dec Y) (by have := dec_len 9 Y (by omega); omega)
    have fx := fresh_aged X (by omega) G G (G + E)
    have fy := fresh_aged Y (by omega) G G (G + E)
    rw [longer_core X Y (by omega) (by omega) G E hG0 hG2 hE0 hE2] at fx fy
    have dx := digits18 X (by omega)
    have dy := digits18 Y (by omega)
    generalize agedB (dec X) = MX at *
    generalize agedB (dec Y) = MY at *
    refine call_of dx ?_
    simp
    refine call_of ax ?_
    simp
    refine call_of fx ?_
    simp
    refine call_of dy ?_
    simp
    refine call_of ay ?_
    simp
    refine call_of fy ?_
    simp
    by_cases p1 : (if 2147483647 < E then 2147483647 else E) < (X : Int)
    · have p2 : (if 2147483647 < E then 2147483647 else E) < (Y : Int) := by omega
      have q1 : min E 2147483647 < (X : Int) := by omega
      have q2 : min E 2147483647 < (Y : Int) := by omega
      simp [w2, p1, p2, q1, q2, Tryz.results4]
    · have q1 : ¬ min E 2147483647 < (X : Int) := by omega
      by_cases p2 : (if 2147483647 < E then 2147483647 else E) < (Y : Int)
      · have q2 : min E 2147483647 < (Y : Int) := by omega
        simp [w2, p1, p2, q1, q2, Tryz.results4]
      · have q2 : ¬ min E 2147483647 < (Y : Int) := by omega
        simp [w2, p1, p2, q1, q2, Tryz.results4]
end Go.Av

/-! part Z94 -/
namespace Go.Av
open Go.Proofs

def i64b (v : Int) : Prop := -9223372036854775808 ≤ v ∧ v ≤ 9223372036854775807
theorem laidO : laidOutB Tryz.prog = true := by kernel_rfl
theorem cellsT3 : Tryz.prog.cellsOf 3 = 1 := by kernel_rfl
theorem cellsT30 : Tryz.prog.cellsOf 30 = 2 := by kernel_rfl
theorem bounds_i64 {n : Int} (h : (Lit.int .i64 n).wf = true) : i64b n := by
  have a : IntKind.i64.min = -9223372036854775808 := rfl
  have b : IntKind.i64.max = 9223372036854775807 := rfl
  simp only [Lit.wf, Bool.and_eq_true, decide_eq_true_eq, a, b] at h
  exact h
def intS (x : PC) : Prop := ∃ n : Int, x = .int n ∧ i64b n
def twoS (x : PC) : Prop := ∃ a b : Int, x = .agg false [.int a, .int b] ∧ i64b a ∧ i64b b
theorem rdI : RdU Tryz.prog 3 intS := (rd_int Tryz.underlying3).c.mono fun x ⟨n, h, hw⟩ => ⟨n, h, bounds_i64 hw⟩
theorem rd3 : RdV Tryz.prog 3 intS :=
  rv_one (by rw [Tryz.underlying3]; simp) (by rw [Tryz.underlying3]; simp) rdI.c (by rintro x ⟨s, rfl, _⟩ b xs h; cases h)
theorem rd30 : RdV Tryz.prog 30 twoS :=
  rv_arr Tryz.underlying30 ((rd_arr2 Tryz.underlying30 (by rw [cellsT30, cellsT3]) rdI).mono fun x ⟨y0, y1, h, ⟨a, ha, ha2⟩, ⟨b, hb, hb2⟩⟩ => by
    subst ha; subst hb; exact ⟨a, b, h, ha2, hb2⟩) (by rintro x ⟨a, b, rfl, _⟩; exact ⟨_, rfl⟩)
theorem law4n {x y z : PC} (hx : intS x) (hy : intS y) (hz : twoS z) : PureC Tryz.prog 4 [x, y, z] (.bool true) := by
  obtain ⟨a, rfl, _⟩ := hx
  obtain ⟨b, rfl, _⟩ := hy
  obtain ⟨c, d, rfl, _⟩ := hz
  exact law4 a b c d
end Go.Av
