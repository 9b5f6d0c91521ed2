/- FreshLater and FreshStrict compute true; how messages are read; what the world's shape says. -/
import Derived.Test.YtffoncjofjgojaaGreatDoorZh
import Derived.Handed
import Derived.Shelf.Vars
set_option linter.all false
/-! part Z105 -/
namespace Go.Av
open Go.Proofs
set_option maxRecDepth 100000
theorem parse_D : DB parseD := ⟨fun s => (parse_b s).1, fun s => (parse_b s).2⟩
theorem one_len {fs : List Fd} (h : ∀ f ∈ fs, f.1.length ≤ 300 ∧ f.2.length ≤ 500) (n : List UInt8) : (oneB fs n).1.length ≤ 500 := by
  have hm : ∀ v ∈ getB fs n, v.length ≤ 500 := fun v hv => by
    unfold getB at hv
    obtain ⟨f, hf, rfl⟩ := List.mem_map.1 hv
    exact (h f (List.mem_filter.1 hf).1).2
  unfold oneB
  split
  · rename_i v hv; exact hm v (by rw [hv]; simp)
  · simp
theorem parse_Fs {fs : List Fd} (h : shortB fs = true) : DFs parseD fs := by
  have hs := (short_ok h).2.2
  exact ⟨fun _ => Parse117 _ (by have := one_len hs datN; omega), fun _ => Parse117 _ (by have := one_len hs expN; omega), fun _ => Parse117 _ (by have := one_len hs lamN; omega)⟩
theorem age_mono (D : List UInt8 → Int × Int) (r : Rsp) {a b : Int} (h : a ≤ b) : ageB D r a ≤ ageB D r b := by
  unfold ageB nowI secI clkI; omega
theorem age_bnd (D : List UInt8 → Int × Int) (r : Rsp) (a : Int) : 0 ≤ ageB D r a ∧ ageB D r a ≤ 2147483647 := by
  unfold ageB; exact sec_b _
theorem age_step (D : List UInt8 → Int × Int) (r : Rsp) (hr : ROk r) {a b : Int} (h1 : a ≤ b) (h2 : r.g ≤ a) (h3 : b ≤ 1099511627776) (h4 : ageB D r b ≠ 2147483647) : ageB D r b - ageB D r a = b - a := by
  have g0 := hr.g0
  unfold ageB nowI secI clkI at *
  omega
set_option maxHeartbeats 4000000 in
theorem law3 (x : Msg) (t0 t1 n0 n1 : Int) (hl : x.fs.length ≤ 9223372036854775807) : PureC Tryz.prog 3 [.agg false (msgL x), .agg false [.int t0, .int t1], .agg false [.int n0, .int n1]] (.bool true) := by
  have hsh := short14 x hl
  refine pure_of_aw (ys := [_]) [] [] [] mixed Tryz.func3 rfl (by kernel_rfl) (by kernel_rfl) (by simp [Tryz.ntmps3]) rfl ?_
  simp
  refine pcall_of awake13 (by simp) ?_
  simp
  refine pcall_of hsh (by simp) ?_
  cases hb : shortB x.fs with
  | false =>
    simp
    refine pcall_of awake13 (by simp) ?_
    simp [Tryz.results3]
  | true =>
    have hf := short_fd hb
    have hD := parse_Fs hb
    by_cases c : n1 < n0
    · have c2 : ¬ n0 < n1 := by omega
      simp [c, c2, arrEl30]
      have ax := Age15 parseD parse_D x t0 t1 n1 hf hD.dat
      have ay := Age15 parseD parse_D x t0 t1 n0 hf hD.dat
      have fx := Fresh16 parseD parse_D x t0 t1 n1 hf hD
      have fy := Fresh16 parseD parse_D x t0 t1 n0 hf hD
      have hk := of_ok x t0 t1 hf
      have hg : (ofB x t0 t1).g = max (clkI t1) (clkI t0) := rfl
      have hw := When17 t0 t1
      rw [← hg] at hw
      generalize ofB x t0 t1 = r at *
      have hm := age_mono parseD r (a := n1) (b := n0) (by omega)
      have hst := age_step parseD r hk (a := n1) (b := n0)
      have hxb := age_bnd parseD r n1
      have hyb := age_bnd parseD r n0
      obtain ⟨g0, g1⟩ : 0 ≤ r.g ∧ r.g ≤ 1099511627776 := ⟨hk.g0, hk.g1⟩
      generalize ageB parseD r n1 = X at *
      generalize ageB parseD r n0 = Y at *
      generalize (lifeB parseD r).1 = L at *
      refine call_of ax ?_
      simp
      refine call_of ay ?_
      have hn1 : ¬ Y < X := by omega
      simp [hn1]
      refine pcall_of fx (by simp) ?_
      by_cases c1 : X < L
      · simp [c1]
        refine pcall_of hw (by simp) ?_
        by_cases k1 : n1 < r.g
        · simp [k1, Tryz.results3]
        by_cases k2 : 1099511627776 < n0
        · simp [k1, k2, Tryz.results3]
        by_cases k3 : Y = 2147483647
        · simp [k1, k2, k3, Tryz.results3]
        have k3' : (Y == 2147483647) = false := by simpa using k3
        have hs := hst (by omega) (by omega) (by omega) k3
        have w1 : IntKind.i64.wrap (Y - X) = Y - X := wrap64_id (by omega) (by omega)
        have w2 : IntKind.i64.wrap (n0 - n1) = Y - X := by rw [wrap64_id (by omega) (by omega)]; omega
        simp [k1, k2, k3', w1, w2, Tryz.results3]
      · have c2 : ¬ Y < L := by omega
        simp [c1]
        refine pcall_of fy (by simp) ?_
        simp [c2]
        refine pcall_of hw (by simp) ?_
        by_cases k1 : n1 < r.g
        · simp [k1, Tryz.results3]
        by_cases k2 : 1099511627776 < n0
        · simp [k1, k2, Tryz.results3]
        by_cases k3 : Y = 2147483647
        · simp [k1, k2, k3, Tryz.results3]
        have k3' : (Y == 2147483647) = false := by simpa using k3
        have hs := hst (by omega) (by omega) (by omega) k3
        have w1 : IntKind.i64.wrap (Y - X) = Y - X := wrap64_id (by omega) (by omega)
        have w2 : IntKind.i64.wrap (n0 - n1) = Y - X := by rw [wrap64_id (by omega) (by omega)]; omega
        simp [k1, k2, k3', w1, w2, Tryz.results3]
    · by_cases c2 : n0 < n1
      · simp [c, c2, arrEl30]
        have ax := Age15 parseD parse_D x t0 t1 n0 hf hD.dat
        have ay := Age15 parseD parse_D x t0 t1 n1 hf hD.dat
        have fx := Fresh16 parseD parse_D x t0 t1 n0 hf hD
        have fy := Fresh16 parseD parse_D x t0 t1 n1 hf hD
        have hk := of_ok x t0 t1 hf
        have hg : (ofB x t0 t1).g = max (clkI t1) (clkI t0) := rfl
        have hw := When17 t0 t1
        rw [← hg] at hw
        generalize ofB x t0 t1 = r at *
        have hm := age_mono parseD r (a := n0) (b := n1) (by omega)
        have hst := age_step parseD r hk (a := n0) (b := n1)
        have hxb := age_bnd parseD r n0
        have hyb := age_bnd parseD r n1
        obtain ⟨g0, g1⟩ : 0 ≤ r.g ∧ r.g ≤ 1099511627776 := ⟨hk.g0, hk.g1⟩
        generalize ageB parseD r n0 = X at *
        generalize ageB parseD r n1 = Y at *
        generalize (lifeB parseD r).1 = L at *
        refine call_of ax ?_
        simp
        refine call_of ay ?_
        have hn1 : ¬ Y < X := by omega
        simp [hn1]
        refine pcall_of fx (by simp) ?_
        by_cases c1 : X < L
        · simp [c1]
          refine pcall_of hw (by simp) ?_
          by_cases k1 : n0 < r.g
          · simp [k1, Tryz.results3]
          by_cases k2 : 1099511627776 < n1
          · simp [k1, k2, Tryz.results3]
          by_cases k3 : Y = 2147483647
          · simp [k1, k2, k3, Tryz.results3]
          have k3' : (Y == 2147483647) = false := by simpa using k3
          have hs := hst (by omega) (by omega) (by omega) k3
          have w1 : IntKind.i64.wrap (Y - X) = Y - X := wrap64_id (by omega) (by omega)
          have w2 : IntKind.i64.wrap (n1 - n0) = Y - X := by rw [wrap64_id (by omega) (by omega)]; omega
          simp [k1, k2, k3', w1, w2, Tryz.results3]
        · have c2 : ¬ Y < L := by omega
          simp [c1]
          refine pcall_of fy (by simp) ?_
          simp [c2]
          refine pcall_of hw (by simp) ?_
          by_cases k1 : n0 < r.g
          · simp [k1, Tryz.results3]
          by_cases k2 : 1099511627776 < n1
          · simp [k1, k2, Tryz.results3]
          by_cases k3 : Y = 2147483647
          · simp [k1, k2, k3, Tryz.results3]
          have k3' : (Y == 2147483647) = false := by simpa using k3
          have hs := hst (by omega) (by omega) (by omega) k3
          have w1 : IntKind.i64.wrap (Y - X) = Y - X := wrap64_id (by omega) (by omega)
          have w2 : IntKind.i64.wrap (n1 - n0) = Y - X := by rw [wrap64_id (by omega) (by omega)]; omega
          simp [k1, k2, k3', w1, w2, Tryz.results3]
      · obtain rfl : n0 = n1 := by omega
        simp [arrEl30]
        have ax := Age15 parseD parse_D x t0 t1 n0 hf hD.dat
        have ay := Age15 parseD parse_D x t0 t1 n0 hf hD.dat
        have fx := Fresh16 parseD parse_D x t0 t1 n0 hf hD
        have fy := Fresh16 parseD parse_D x t0 t1 n0 hf hD
        have hk := of_ok x t0 t1 hf
        have hg : (ofB x t0 t1).g = max (clkI t1) (clkI t0) := rfl
        have hw := When17 t0 t1
        rw [← hg] at hw
        generalize ofB x t0 t1 = r at *
        have hm := age_mono parseD r (a := n0) (b := n0) (by omega)
        have hst := age_step parseD r hk (a := n0) (b := n0)
        have hxb := age_bnd parseD r n0
        have hyb := age_bnd parseD r n0
        obtain ⟨g0, g1⟩ : 0 ≤ r.g ∧ r.g ≤ 1099511627776 := ⟨hk.g0, hk.g1⟩
        generalize ageB parseD r n0 = X at *
        generalize (lifeB parseD r).1 = L at *
        refine call_of ax ?_
        simp
        refine call_of ay ?_
        have hn1 : ¬ X < X := by omega
        simp [hn1]
        refine pcall_of fx (by simp) ?_
        by_cases c1 : X < L
        · simp [c1]
          refine pcall_of hw (by simp) ?_
          by_cases k1 : n0 < r.g
          · simp [k1, Tryz.results3]
          by_cases k2 : 1099511627776 < n0
          · simp [k1, k2, Tryz.results3]
          by_cases k3 : X = 2147483647
          · simp [k1, k2, k3, Tryz.results3]
          have k3' : (X == 2147483647) = false := by simpa using k3
          have hs := hst (by omega) (by omega) (by omega) k3
          have w1 : IntKind.i64.wrap (X - X) = X - X := wrap64_id (by omega) (by omega)
          have w2 : IntKind.i64.wrap (n0 - n0) = X - X := by rw [wrap64_id (by omega) (by omega)]; omega
          simp [k1, k2, k3', w1, w2, Tryz.results3]
        · have c2 : ¬ X < L := by omega
          simp [c1]
          refine pcall_of fy (by simp) ?_
          simp [c2]
          refine pcall_of hw (by simp) ?_
          by_cases k1 : n0 < r.g
          · simp [k1, Tryz.results3]
          by_cases k2 : 1099511627776 < n0
          · simp [k1, k2, Tryz.results3]
          by_cases k3 : X = 2147483647
          · simp [k1, k2, k3, Tryz.results3]
          have k3' : (X == 2147483647) = false := by simpa using k3
          have hs := hst (by omega) (by omega) (by omega) k3
          have w1 : IntKind.i64.wrap (X - X) = X - X := wrap64_id (by omega) (by omega)
          have w2 : IntKind.i64.wrap (n0 - n0) = X - X := by rw [wrap64_id (by omega) (by omega)]; omega
          simp [k1, k2, k3', w1, w2, Tryz.results3]
end Go.Av

/-! part Z106 -/
namespace Go.Av
open Go.Proofs
set_option maxRecDepth 100000
def svB (A L : Int) (rn rm rp : Bool) (rs : Int) (nc : Bool) (j0 j2 j3 : Int) : Bool :=
  if nc || rn then false
  else if 0 ≤ j0 ∧ j0 < A then false
  else if 0 ≤ j3 ∧ L - A < j3 then false
  else if A < L then true
  else decide (0 ≤ j2) && decide (A - L ≤ j2) && !rm && !rp && decide (rs < 0)
theorem sv_mono {A L : Int} {rn rm rp : Bool} {rs : Int} {nc : Bool} {j0 j2 j3 i0 i2 i3 : Int} (h0 : 0 ≤ i0 → 0 ≤ j0 ∧ j0 ≤ i0) (h3 : 0 ≤ i3 → 0 ≤ j3 ∧ i3 ≤ j3) (h2 : 0 ≤ j2 → 0 ≤ i2 ∧ j2 ≤ i2)
    (h : svB A L rn rm rp rs nc i0 i2 i3 = false) : svB A L rn rm rp rs nc j0 j2 j3 = false := by
  cases hj : svB A L rn rm rp rs nc j0 j2 j3 with
  | false => rfl
  | true =>
    exfalso
    unfold svB at hj h
    by_cases c1 : (nc || rn) = true
    · rw [if_pos c1] at hj; cases hj
    rw [if_neg c1] at hj h
    by_cases c2 : 0 ≤ j0 ∧ j0 < A
    · rw [if_pos c2] at hj; cases hj
    rw [if_neg c2] at hj
    by_cases c3 : 0 ≤ j3 ∧ L - A < j3
    · rw [if_pos c3] at hj; cases hj
    rw [if_neg c3] at hj
    rw [if_neg (by omega), if_neg (by omega)] at h
    by_cases c4 : A < L
    · rw [if_pos c4] at h; cases h
    · rw [if_neg c4] at hj h
      simp only [Bool.and_eq_true, decide_eq_true_eq] at hj
      obtain ⟨⟨⟨⟨e1, e2⟩, e3⟩, e4⟩, e5⟩ := hj
      have := h2 e1
      have d1 : 0 ≤ i2 := this.1
      have d2 : A - L ≤ i2 := by omega
      simp [d1, d2, e3, e4, e5] at h
structure LZ where
  i : Nat
  nc : Bool
  j0 : Int
  j2 : Int
  j3 : Int
set_option maxHeartbeats 4000000 in
theorem law5 (x : Msg) (t0 t1 now : Int) (b0 b1 b2 b3 b4 b5 b6 : Bool) (i0 i1 i2 i3 : Int) (hl : x.fs.length ≤ 9223372036854775807) :
    PureC Tryz.prog 5 [.agg false (msgL x), .agg false [.int t0, .int t1], .agg false [.int now, .bool b0, .bool b1, .bool b2, .bool b3, .bool b4, .bool b5, .bool b6, .int i0, .int i1, .int i2, .int i3]] (.bool true) := by
  have hsh := short14 x hl
  refine pure_of_aw (ys := [_]) [] [] [] mixed Tryz.func5 rfl (by kernel_rfl) (by kernel_rfl) (by simp [Tryz.ntmps5]) rfl ?_
  simp
  refine pcall_of awake13 (by simp) ?_
  simp
  refine pcall_of hsh (by simp) ?_
  cases hb : shortB x.fs with
  | false =>
    simp
    refine pcall_of awake13 (by simp) ?_
    simp [Tryz.results5]
  | true =>
    have hf := short_fd hb
    have hD := parse_Fs hb
    obtain ⟨A, L, rn, rm, rp, rs, hS⟩ : ∃ (A L : Int) (rn rm rp : Bool) (rs : Int), ∀ (nc : Bool) (j0 j2 j3 : Int), PureC Tryz.prog 20 [.agg false (msgL x), .agg false [.int t0, .int t1], .int now,
        .agg false [.bool b0, .bool nc, .bool b2, .bool b3, .bool b4, .bool b5, .bool b6, .int j0, .int i1, .int j2, .int j3]] (.bool (svB A L rn rm rp rs nc j0 j2 j3)) :=
      ⟨_, _, _, _, _, _, fun nc j0 j2 j3 => Serve20 parseD parse_D x t0 t1 now ([b0, nc, b2, b3, b4, b5, b6], [j0, i1, j2, j3]) rfl rfl hf hD⟩
    obtain ⟨I0, hI0, l0, u0⟩ : ∃ I : Int, (if (if 2147483647 < i0 then 2147483647 else i0) < -1 then -1 else if 2147483647 < i0 then 2147483647 else i0) = I ∧ -1 ≤ I ∧ I ≤ 2147483647 := ⟨_, rfl, by omega, by omega⟩
    obtain ⟨I2, hI2, l2, u2⟩ : ∃ I : Int, (if (if 2147483647 < i2 then 2147483647 else i2) < -1 then -1 else if 2147483647 < i2 then 2147483647 else i2) = I ∧ -1 ≤ I ∧ I ≤ 2147483647 := ⟨_, rfl, by omega, by omega⟩
    obtain ⟨I3, hI3, l3, u3⟩ : ∃ I : Int, (if (if 2147483647 < i3 then 2147483647 else i3) < -1 then -1 else if 2147483647 < i3 then 2147483647 else i3) = I ∧ -1 ≤ I ∧ I ≤ 2147483647 := ⟨_, rfl, by omega, by omega⟩
    obtain ⟨S, hSv⟩ : ∃ S, svB A L rn rm rp rs b1 I0 I2 I3 = S := ⟨_, rfl⟩
    have hq0 := hS b1 I0 I2 I3
    have hq1 := hS true I0 I2 I3
    have hfal : svB A L rn rm rp rs true I0 I2 I3 = false := by simp [svB]
    rw [hSv] at hq0
    rw [hfal] at hq1
    simp [hI0, hI2, hI3]
    refine pcall_of hq0 (by simp) ?_
    simp
    refine pcall_of hq1 (by simp) ?_
    simp
    refine aw_loop (fun y : LZ => y.i ≤ 3)
      (fun y => [(3, .p (.ref (.agg false (msgL x)))), (4, .p (.ref (.agg false [.int t0, .int t1]))), (5, .p (.ref (.agg false [.int now, .bool b0, .bool b1, .bool b2, .bool b3, .bool b4, .bool b5, .bool b6, .int i0, .int i1, .int i2, .int i3]))), (7, .obj 0 0), (8, .p (.bool S)), (9, .obj 1 0), (10, .p (.int y.i))])
      (fun y => ⟨[(1, ⟨42, 11, [.p (.bool b0), .p (.bool y.nc), .p (.bool b2), .p (.bool b3), .p (.bool b4), .p (.bool b5), .p (.bool b6), .p (.int y.j0), .p (.int i1), .p (.int y.j2), .p (.int y.j3)]⟩), (0, ⟨42, 11, [.p (.bool b0), .p (.bool b1), .p (.bool b2), .p (.bool b3), .p (.bool b4), .p (.bool b5), .p (.bool b6), .p (.int I0), .p (.int i1), .p (.int I2), .p (.int I3)]⟩)], [], 2⟩) (fun y => 3 - y.i) ⟨0, true, I0, I2, I3⟩ (by simp) _ (AS.le_refl _ _) (leN_of [] (by simp)) ?_
    rintro ⟨i, nc, j0, j2, j3⟩ hi
    simp only at hi
    rcases (by omega : i = 0 ∨ i = 1 ∨ i = 2 ∨ i = 3) with rfl | rfl | rfl | rfl
    · by_cases m0 : I0 < 0
      · have w1 : IntKind.i64.wrap (I0.tdiv 2) = I0.tdiv 2 := by
          rcases (by omega : I0 = -1) with rfl; decide
        have hq := hS b1 (7) (I2) (I3)
        cases S with
        | true =>
          simp [m0, w1, wr1]
          exact ⟨⟨0 + 1, b1, 7, I2, I3⟩, by simp, by simp, leN_of [] (by simp [m0, w1, wr1])⟩
        | false =>
          rw [sv_mono (i0 := I0) (i2 := I2) (i3 := I3) (fun h => by omega) (fun h => ⟨h, by omega⟩) (fun h => ⟨h, by omega⟩) hSv] at hq
          simp [m0, w1, wr1]
          refine pcall_of hq (by simp) ?_
          simp [m0, w1, wr1]
          exact ⟨⟨0 + 1, b1, 7, I2, I3⟩, by simp, by simp, leN_of [] (by simp [m0, w1, wr1])⟩
      · have e0 : I0.tdiv 2 = I0 / 2 := Int.tdiv_eq_ediv_of_nonneg (by omega)
        have w1 : IntKind.i64.wrap (I0 / 2) = I0 / 2 := wrap64_id (by omega) (by omega)
        have hq := hS b1 (I0 / 2) (I2) (I3)
        cases S with
        | true =>
          simp [m0, e0, w1, wr1]
          exact ⟨⟨0 + 1, b1, I0 / 2, I2, I3⟩, by simp, by simp, leN_of [] (by simp [m0, e0, w1, wr1])⟩
        | false =>
          rw [sv_mono (i0 := I0) (i2 := I2) (i3 := I3) (fun h => by omega) (fun h => ⟨h, by omega⟩) (fun h => ⟨h, by omega⟩) hSv] at hq
          simp [m0, e0, w1, wr1]
          refine pcall_of hq (by simp) ?_
          simp [m0, e0, w1, wr1]
          exact ⟨⟨0 + 1, b1, I0 / 2, I2, I3⟩, by simp, by simp, leN_of [] (by simp [m0, e0, w1, wr1])⟩
    · obtain ⟨J, hJ, hJ0, hJ1⟩ : ∃ J : Int, (if 2147483647 < (if I3 < 0 then 0 else I3) * 2 then 2147483647 else (if I3 < 0 then 0 else I3) * 2) = J ∧ (0 ≤ I3 → I3 ≤ J) ∧ 0 ≤ J := ⟨_, rfl, by omega, by omega⟩
      have w1 : IntKind.i64.wrap ((if I3 < 0 then 0 else I3) * 2) = (if I3 < 0 then 0 else I3) * 2 := wrap64_id (by omega) (by omega)
      have hq := hS b1 (I0) (I2) (J)
      cases S with
      | true =>
        simp [w1, hJ, wr2]
        exact ⟨⟨1 + 1, b1, I0, I2, J⟩, by simp, by simp, leN_of [] (by simp [w1, hJ, wr2])⟩
      | false =>
        rw [sv_mono (i0 := I0) (i2 := I2) (i3 := I3) (fun h => ⟨h, by omega⟩) (fun h => ⟨hJ1, hJ0 h⟩) (fun h => ⟨h, by omega⟩) hSv] at hq
        simp [w1, hJ, wr2]
        refine pcall_of hq (by simp) ?_
        simp [w1, hJ, wr2]
        exact ⟨⟨1 + 1, b1, I0, I2, J⟩, by simp, by simp, leN_of [] (by simp [w1, hJ, wr2])⟩
    · skip
      have hq := hS b1 (I0) (-1) (I3)
      cases S with
      | true =>
        simp [wr3]
        exact ⟨⟨2 + 1, b1, I0, -1, I3⟩, by simp, by simp, leN_of [] (by simp [wr3])⟩
      | false =>
        rw [sv_mono (i0 := I0) (i2 := I2) (i3 := I3) (fun h => ⟨h, by omega⟩) (fun h => ⟨h, by omega⟩) (fun h => by omega) hSv] at hq
        simp [wr3]
        refine pcall_of hq (by simp) ?_
        simp [wr3]
        exact ⟨⟨2 + 1, b1, I0, -1, I3⟩, by simp, by simp, leN_of [] (by simp [wr3])⟩
    · simp [Tryz.results5]
end Go.Av

/-! part Z107 -/
namespace Go.Av
open Go.Proofs

theorem cellsT4 : Tryz.prog.cellsOf 4 = 1 := by kernel_rfl
theorem cellsT5 : Tryz.prog.cellsOf 5 = 1 := by kernel_rfl
theorem cellsT9 : Tryz.prog.cellsOf 9 = 1 := by kernel_rfl
theorem cellsT23 : Tryz.prog.cellsOf 23 = 5 := by kernel_rfl
theorem cellsT24 : Tryz.prog.cellsOf 24 = 1 := by kernel_rfl
theorem cellsT25 : Tryz.prog.cellsOf 25 = 1 := by kernel_rfl
theorem cellsT27 : Tryz.prog.cellsOf 27 = 7 := by kernel_rfl
theorem cellsT29 : Tryz.prog.cellsOf 29 = 2 := by kernel_rfl
theorem cellsT42 : Tryz.prog.cellsOf 42 = 11 := by kernel_rfl
theorem cellsT44 : Tryz.prog.cellsOf 44 = 12 := by kernel_rfl
theorem cellsT49 : Tryz.prog.cellsOf 49 = 2 := by kernel_rfl
theorem bounds_u8 {n : Int} (h : (Lit.int .u8 n).wf = true) : 0 ≤ n ∧ n ≤ 255 := by
  have a : IntKind.u8.min = 0 := rfl
  have b : IntKind.u8.max = 255 := rfl
  simp only [Lit.wf, Bool.and_eq_true, decide_eq_true_eq, a, b] at h
  exact h
theorem bytes_of_l {xs : List PC} (h : ∀ x ∈ xs, ∃ n : Int, x = .sc (.int .u8 n) ∧ (Lit.int .u8 n).wf = true) : ∃ ks : List UInt8, xs = bytesPC ks := by
  induction xs with
  | nil => exact ⟨[], rfl⟩
  | cons x xs ih =>
    obtain ⟨ks, rfl⟩ := ih fun y hy => h y (by simp [hy])
    obtain ⟨n, rfl, hw⟩ := h x (by simp)
    have hb := bounds_u8 hw
    refine ⟨UInt8.ofNat n.toNat :: ks, ?_⟩
    have e : ((UInt8.ofNat n.toNat).toNat : Int) = n := by
      rw [UInt8.toNat_ofNat']; omega
    simp only [bytesPC, List.map_cons, e]
def bytesS (x : PC) : Prop := ∃ b : List UInt8, x = .sl (bytesPC b) ∧ b.length ≤ 9223372036854775807
theorem rdB : RdU Tryz.prog 25 bytesS :=
  (rd_slice Tryz.underlying25 (by rw [cellsT5]; omega) (rd_int Tryz.underlying5)).mono fun x ⟨xs, h, hl, hv⟩ => by
    obtain ⟨ks, rfl⟩ := bytes_of_l hv; exact ⟨ks, h, by simp [maxLen] at hl; omega⟩
theorem flds_of_l {xs : List PC} (h : ∀ x ∈ xs, ∃ f : Fd, x = fdP f) : ∃ fs : List Fd, xs = fs.map fdP := by
  induction xs with
  | nil => exact ⟨[], rfl⟩
  | cons x xs ih =>
    obtain ⟨ks, rfl⟩ := ih fun y hy => h y (by simp [hy])
    obtain ⟨f, rfl⟩ := h x (by simp)
    exact ⟨f :: ks, rfl⟩
def fldsS (x : PC) : Prop := ∃ fs : List Fd, x = .sl (fs.map fdP) ∧ fs.length ≤ 9223372036854775807
theorem rdF : RdC Tryz.prog 49 (fun x => ∃ f : Fd, x = fdP f) := (rd_struct (Ss := [_, _]) Tryz.underlying49 (by rw [cellsT49]; simp [totF, cellsT9])
    ⟨rfl, (rd_string Tryz.underlying9).c, (by simp [cellsT9]), (rd_string Tryz.underlying9).c, trivial⟩).mono (by
  rintro x ⟨ys, rfl, h⟩
  obtain ⟨_, ys1, rfl, ⟨n, rfl, w1⟩, h1⟩ := all2_c h
  obtain ⟨_, rfl, v, rfl, w2⟩ := all2_1 h1
  exact ⟨(n, v), rfl⟩)
theorem rdFs : RdU Tryz.prog 24 fldsS :=
  (rd_slice Tryz.underlying24 (by rw [cellsT49]; omega) rdF).mono fun x ⟨xs, h, hl, hv⟩ => by
    obtain ⟨ks, rfl⟩ := flds_of_l hv; exact ⟨ks, h, by simp [maxLen] at hl; omega⟩
def startS (x : PC) : Prop := ∃ (m t : List UInt8) (st : Int) (r : List UInt8) (mi : Int), x = .agg false [.str m, .str t, .int st, .str r, .int mi] ∧ i64b st ∧ i64b mi ∧ m.length ≤ 9223372036854775807
theorem rdSt : RdC Tryz.prog 23 startS := (rd_struct (Ss := [_, _, _, _, _]) Tryz.underlying23 (by rw [cellsT23]; simp [totF, cellsT3, cellsT9])
    ⟨rfl, (rd_string Tryz.underlying9).c, (by simp [cellsT9]), (rd_string Tryz.underlying9).c, (by simp [cellsT9]), (rd_int Tryz.underlying3).c, (by simp [cellsT9, cellsT3]), (rd_string Tryz.underlying9).c, (by simp [cellsT9, cellsT3]), (rd_int Tryz.underlying3).c, trivial⟩).mono (by
  rintro x ⟨ys, rfl, h⟩
  obtain ⟨_, ys1, rfl, ⟨m, rfl, w1⟩, h1⟩ := all2_c h
  obtain ⟨_, ys2, rfl, ⟨t, rfl, w2⟩, h2⟩ := all2_c h1
  obtain ⟨_, ys3, rfl, ⟨st, rfl, w3⟩, h3⟩ := all2_c h2
  obtain ⟨_, ys4, rfl, ⟨r, rfl, w4⟩, h4⟩ := all2_c h3
  obtain ⟨_, rfl, mi, rfl, w5⟩ := all2_1 h4
  simp only [maxLen] at w1
  exact ⟨m, t, st, r, mi, rfl, bounds_i64 w3, bounds_i64 w5, by simpa using w1⟩)
structure MsgOk (x : Msg) : Prop where
  fs : x.fs.length ≤ 9223372036854775807
  b : x.body.length ≤ 9223372036854775807
  st : i64b x.st
  mi : i64b x.mi
  m : x.m.length ≤ 9223372036854775807
def msgS (x : PC) : Prop := ∃ m : Msg, x = .agg false (msgL m) ∧ MsgOk m
theorem rd27 : RdV Tryz.prog 27 msgS := by
  refine rv_struct Tryz.underlying27 ((rd_struct (Ss := [_, _, _]) Tryz.underlying27 (by rw [cellsT27]; simp [totF, cellsT23, cellsT24, cellsT25])
    ⟨rfl, rdSt, (by simp [cellsT23]), rdFs.c, (by simp [cellsT23, cellsT24]), rdB.c, trivial⟩).mono ?_) ?_
  · rintro x ⟨ys, rfl, h⟩
    obtain ⟨_, ys1, rfl, ⟨m, t, st, r, mi, rfl, w1, w2, w5⟩, h1⟩ := all2_c h
    obtain ⟨_, ys2, rfl, ⟨fs, rfl, w3⟩, h2⟩ := all2_c h1
    obtain ⟨_, rfl, b, rfl, w4⟩ := all2_1 h2
    exact ⟨⟨m, t, st, r, mi, fs, b⟩, rfl, w3, w4, w1, w2, w5⟩
  · rintro x ⟨m, rfl, _⟩; exact ⟨_, rfl⟩
theorem rd29 : RdV Tryz.prog 29 twoS :=
  rv_struct Tryz.underlying29 ((rd_struct (Ss := [_, _]) Tryz.underlying29 (by rw [cellsT29]; simp [totF, cellsT3]) ⟨rfl, rdI.c, (by simp [cellsT3]), rdI.c, trivial⟩).mono (by
    rintro x ⟨ys, rfl, h⟩
    obtain ⟨_, ys1, rfl, ⟨a, rfl, w1⟩, h1⟩ := all2_c h
    obtain ⟨_, rfl, b, rfl, w2⟩ := all2_1 h1
    exact ⟨a, b, rfl, w1, w2⟩)) (by rintro x ⟨a, b, rfl, _⟩; exact ⟨_, rfl⟩)
def ctlS (x : PC) : Prop := ∃ (b0 b1 b2 b3 b4 b5 b6 : Bool) (i0 i1 i2 i3 : Int), x = .agg false [.bool b0, .bool b1, .bool b2, .bool b3, .bool b4, .bool b5, .bool b6, .int i0, .int i1, .int i2, .int i3]
theorem rdC42 : RdC Tryz.prog 42 ctlS := (rd_struct (Ss := [_, _, _, _, _, _, _, _, _, _, _]) Tryz.underlying42 (by rw [cellsT42]; simp [totF, cellsT3, cellsT4])
    ⟨rfl, (rd_bool Tryz.underlying4).c, (by simp [cellsT4]), (rd_bool Tryz.underlying4).c, (by simp [cellsT4]), (rd_bool Tryz.underlying4).c, (by simp [cellsT4]), (rd_bool Tryz.underlying4).c, (by simp [cellsT4]), (rd_bool Tryz.underlying4).c, (by simp [cellsT4]), (rd_bool Tryz.underlying4).c, (by simp [cellsT4]), (rd_bool Tryz.underlying4).c, (by simp [cellsT4]), rdI.c, (by simp [cellsT4, cellsT3]), rdI.c, (by simp [cellsT4, cellsT3]), rdI.c, (by simp [cellsT4, cellsT3]), rdI.c, trivial⟩).mono (by
    rintro x ⟨ys, rfl, h⟩
    obtain ⟨_, ys1, rfl, ⟨b0, rfl⟩, h1⟩ := all2_c h
    obtain ⟨_, ys2, rfl, ⟨b1, rfl⟩, h2⟩ := all2_c h1
    obtain ⟨_, ys3, rfl, ⟨b2, rfl⟩, h3⟩ := all2_c h2
    obtain ⟨_, ys4, rfl, ⟨b3, rfl⟩, h4⟩ := all2_c h3
    obtain ⟨_, ys5, rfl, ⟨b4, rfl⟩, h5⟩ := all2_c h4
    obtain ⟨_, ys6, rfl, ⟨b5, rfl⟩, h6⟩ := all2_c h5
    obtain ⟨_, ys7, rfl, ⟨b6, rfl⟩, h7⟩ := all2_c h6
    obtain ⟨_, ys8, rfl, ⟨i0, rfl, w0⟩, h8⟩ := all2_c h7
    obtain ⟨_, ys9, rfl, ⟨i1, rfl, w1⟩, h9⟩ := all2_c h8
    obtain ⟨_, ys10, rfl, ⟨i2, rfl, w2⟩, h10⟩ := all2_c h9
    obtain ⟨_, rfl, i3, rfl, w3⟩ := all2_1 h10
    exact ⟨b0, b1, b2, b3, b4, b5, b6, i0, i1, i2, i3, rfl⟩)
def askS (x : PC) : Prop := ∃ (n : Int) (b0 b1 b2 b3 b4 b5 b6 : Bool) (i0 i1 i2 i3 : Int), x = .agg false [.int n, .bool b0, .bool b1, .bool b2, .bool b3, .bool b4, .bool b5, .bool b6, .int i0, .int i1, .int i2, .int i3]
theorem rd44 : RdV Tryz.prog 44 askS :=
  rv_struct Tryz.underlying44 ((rd_struct (Ss := [_, _]) Tryz.underlying44 (by rw [cellsT44]; simp [totF, cellsT3, cellsT42]) ⟨rfl, rdI.c, (by simp [cellsT3]), rdC42, trivial⟩).mono (by
    rintro x ⟨ys, rfl, h⟩
    obtain ⟨_, ys1, rfl, ⟨n, rfl, w1⟩, h1⟩ := all2_c h
    obtain ⟨_, rfl, b0, b1, b2, b3, b4, b5, b6, i0, i1, i2, i3, rfl⟩ := all2_1 h1
    exact ⟨n, b0, b1, b2, b3, b4, b5, b6, i0, i1, i2, i3, rfl⟩)) (by rintro x ⟨_, _, _, _, _, _, _, _, _, _, _, _, rfl⟩; exact ⟨_, rfl⟩)
theorem law3n {x y z : PC} (hx : msgS x) (hy : twoS y) (hz : twoS z) : PureC Tryz.prog 3 [x, y, z] (.bool true) := by
  obtain ⟨m, rfl, h⟩ := hx
  obtain ⟨a, b, rfl, _⟩ := hy
  obtain ⟨c, d, rfl, _⟩ := hz
  exact law3 m a b c d h.fs
theorem law5n {x y z : PC} (hx : msgS x) (hy : twoS y) (hz : askS z) : PureC Tryz.prog 5 [x, y, z] (.bool true) := by
  obtain ⟨m, rfl, h⟩ := hx
  obtain ⟨a, b, rfl, _⟩ := hy
  obtain ⟨n, b0, b1, b2, b3, b4, b5, b6, i0, i1, i2, i3, rfl⟩ := hz
  exact law5 m a b n b0 b1 b2 b3 b4 b5 b6 i0 i1 i2 i3 h.fs
end Go.Av

/-! part Z108 -/
namespace Go.Av
open Go.Proofs Go.ChangeShapes Go.WideShapes Go.ChangeAt Go.RowKit
theorem gok {W : World} (h : W.ShapedOpen Tryz.prog) : GOk (memOf W) := by
  obtain ⟨m, hm⟩ := cell_of_shapedOpen_int (g := 0) (t := 3) (zero := #[.int .i64 0]) (k := .i64) h (of_decide_eq_true (by kernel_rfl)) (by kernel_rfl) rfl (by kernel_rfl) (by kernel_rfl) Tryz.underlying3
  exact ⟨m, hm⟩
theorem handed_shaped {H : Type} {enc : TypeId × Value → H} {a : Assume} {C : Checked} {os : Os} {f : FuncId} {fn : Func} {s : ChangeSpec} {conds : List PathCond} {apart fresh handsOn again : Bool} {X : World → Array Value → Prop}
    (hX : ∀ (w w' : World) (args : Array Value), w.heap = w'.heap → X w args → X w' args)
    (own : ownKnob C.prog.godebug = none) (started : os.Started) (noInit : C.prog.inits.idxOf? f = none) (hfn : C.prog.funcs[f]? = some fn)
    (witness : ∃ (w : World) (tape : Tape) (i : Input), w.os = os ∧ (w.forCall tape i).Shaped C.prog ∧ i.vars = [] ∧ Input.okWide C.prog (w.forCall tape i) .any w.heap.size f i ∧
      ((s.pre enc C.prog fn conds apart (w.forCall tape i).memory i.args ∧ X (w.forCall tape i).memory i.args) ∧ sizedMet enc C.prog fn (OpenSpec.ofChange s) apart (w.forCall tape i).memory i.args) ∧ a.holds C.prog (lone (Frame.enter C.prog f i.args .normal) [] (w.forCall tape i)))
    (contract : ∀ (W : World) (base : Nat) (args : Array Value) (ds gs : List (DataW H)) (before : List MemPlace), W.ShapedOpen C.prog →
      (∀ (j : Nat) t v, fn.params[j]? = some t → args[j]? = some v → Value.okWide C.prog W .any base t v) →
      DataW.Whole enc C.prog fn.params.toList s.vars apart W args.toList ds gs before →
      Calls C.prog f args W fun e W' => ∃ v, e = .returned v ∧ s.post enc C.prog fn apart fresh handsOn again W args v W') :
    ReturnsInHanded a C os f .any (fun w args => (s.pre enc C.prog fn conds apart w args ∧ X w args) ∧ sizedMet enc C.prog fn (OpenSpec.ofChange s) apart w args) (s.post enc C.prog fn apart fresh handsOn again) := by
  refine returnsInHanded_of_calls own started noInit witness fun w tape i _ hsh _ hok hpre _ => ?_
  obtain ⟨_, _, _, fn', hfn', _, _, _, _, hval⟩ := hok
  cases Option.some.inj (hfn'.symm.trans hfn)
  obtain ⟨⟨⟨ds, gs, before, hw, hc⟩, hx⟩, hz⟩ := hpre
  have hw' := DataW.Whole.of_heap (w' := w.forCall tape i) (by rfl) hw
  refine (contract (w.forCall tape i) w.heap.size i.args ds gs before hsh hval hw').mono fun e W' ⟨v, he, hp⟩ => ?_
  subst he
  exact ChangeSpec.post_blind hp
end Go.Av
