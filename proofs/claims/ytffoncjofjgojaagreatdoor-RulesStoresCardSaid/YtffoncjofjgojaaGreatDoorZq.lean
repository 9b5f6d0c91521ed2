/- The document's readings of a response and its rules; RulesStores and RulesValidates compute true. -/
import Derived.Test.YtffoncjofjgojaaGreatDoorZp
set_option linter.all false
/-! part Z164 -/
namespace Go.Av
open Go.Proofs
set_option maxRecDepth 100000
theorem rpd118 (s : List UInt8) (hs : s.length ≤ 100000) : PureC Tryz.prog 118 [.str s] (.tp [.int (parseD s).1, .int (parseD s).2]) := by
  have h := rparse118 s hs
  rw [parse_eq] at h
  exact h
theorem rmoment78 (x : Msg) (n : List UInt8) (hf : FdOk x.fs) (hn : n.length ≤ 1000000) (hl : (oneB x.fs n).1.length ≤ 100000) : PureC Tryz.prog 78 [msP x, .str n] (.tp [.int (momB parseD x.fs n).1, .bool (momB parseD x.fs n).2]) := by
  have hgl := getB_len x.fs n
  have h1 := hf.1
  refine pure_of_aw (ys := [_, _]) [] [] [] mixed Tryz.func78 rfl (by kernel_rfl) (by kernel_rfl) (by simp [Tryz.ntmps78]) rfl ?_
  simp
  refine pcall_of (rget108 x.fs n hf hn) (by simp) ?_
  unfold momB
  unfold oneB at *
  generalize getB x.fs n = L at *
  match L, hgl with
  | [], _ => simp [Tryz.results78]
  | [v], _ =>
    simp
    refine pcall_of (rpd118 v hl) (by simp) ?_
    simp [Tryz.results78]
  | a :: b :: L, hgl =>
    have c : ((L.length : Int) + 1 + 1 != 1) = true := by simp; omega
    simp [c, Tryz.results78]
end Go.Av

/-! part Z165 -/
namespace Go.Av
open Go.Proofs
set_option maxRecDepth 100000
theorem rdate98 (x : Msg) (g : Int) (hf : FdOk x.fs) (hl : (oneB x.fs datN).1.length ≤ 100000) : PureC Tryz.prog 98 [msP x, .int g] (.int (dteB parseD x.fs g)) := by
  have hm := rmoment78 x datN hf (by decide) hl
  refine pure_of_aw (ys := [_]) [] [] [] mixed Tryz.func98 rfl (by kernel_rfl) (by kernel_rfl) (by simp [Tryz.ntmps98]) rfl ?_
  unfold dteB
  generalize momB parseD x.fs datN = q at *
  obtain ⟨v, ok⟩ := q
  simp
  refine pcall_of hm (by simp [datN]) ?_
  cases ok <;> simp [Tryz.results98]
theorem rctl_get (fs : List Fd) (hf : FdOk fs) : PureC Tryz.prog 95 [.sl ((getB fs ccN).map PC.str)] (.agg false (ctlL (saysB fs))) := by
  have hl := getB_len fs ccN
  have ht := getB_tot fs ccN
  have h1 := hf.1
  have h2 := hf.2.1
  exact rparse27 _ (by omega) (by omega) (fun v hv => Nat.le_trans (totB_mem hv) (by omega))
theorem rsays60 (x : Msg) (hf : FdOk x.fs) : PureC Tryz.prog 60 [msP x] (.agg false (ctlL (saysB x.fs))) := by
  have hs := rctl_get x.fs hf
  obtain ⟨b0, b1, b2, b3, b4, b5, b6, i0, i1, i2, i3, hc⟩ := says_flat x.fs
  rw [hc] at hs ⊢
  refine pure_of_aw (ys := [_]) [] [] [] mixed Tryz.func60 rfl (by kernel_rfl) (by kernel_rfl) (by simp [Tryz.ntmps60]) rfl ?_
  simp [ctlL] at hs ⊢
  refine pcall_of (rget108 x.fs ccN hf (by decide)) (by simp [ccN]) ?_
  simp
  refine pcall_of hs (by simp) ?_
  simp [Tryz.results60]
theorem rheur63 (n : Int) : PureC Tryz.prog 63 [.int n] (.bool (decide (n ∈ heurL))) := by
  refine pure_of_aw (ys := [_]) [] [] [] mixed Tryz.func63 rfl (by kernel_rfl) (by kernel_rfl) (by simp [Tryz.ntmps63]) rfl ?_
  obtain ⟨R, hR⟩ : ∃ R, R = decide (n ∈ heurL) := ⟨_, rfl⟩
  rw [← hR]
  have hg : R = heurL.any (fun v => v == n) := by
    rw [hR]
    by_cases h : n ∈ heurL
    · rw [decide_eq_true h]; exact (List.any_eq_true.2 ⟨n, h, by simp⟩).symm
    · rw [decide_eq_false h]
      cases hh : heurL.any (fun v => v == n) with
      | false => rfl
      | true =>
        obtain ⟨v, hv, e⟩ := List.any_eq_true.1 hh
        have e' : v = n := by simpa using e
        exact absurd (e' ▸ hv) h
  clear hR
  simp
  refine aw_loop0 (fun i : Nat => i ≤ 11 ∧ R = (heurL.drop i).any (fun v => v == n)) (fun i => [(0, .p (.int n)), (3, .p (.sl (heurL.map PC.int))), (4, .p (.int i))]) (fun i => 11 - i) 0 ⟨by omega, by simpa using hg⟩ (leN_id (by simp [heurL])) ?_
  rintro i ⟨h1, h2⟩
  have hlen : heurL.length = 11 := rfl
  by_cases c : i < 11
  · have c' : i < heurL.length := by omega
    have ci : (i : Int) < 11 := by omega
    have wi : IntKind.i64.wrap ((i : Int) + 1) = ((i + 1 : Nat) : Int) := by rw [wrap64_id (by omega) (by omega)]; rfl
    rw [List.drop_eq_getElem_cons c', List.any_cons] at h2
    have hm : (heurL.map PC.int).length = 11 := rfl
    by_cases e : heurL[i] = n
    · simp [e] at h2
      simp [c, c', ci, hlen, hm, e, h2, Tryz.results63]
    · have e' : (heurL[i] == n) = false := by simpa using e
      simp [e'] at h2
      simp [c, c', ci, hlen, hm, e', wi]
      exact ⟨i + 1, ⟨by omega, by simpa using h2⟩, by omega, leN_id (by simp)⟩
  · obtain rfl : i = 11 := by omega
    have : heurL.drop 11 = [] := rfl
    rw [this] at h2
    simp at h2
    simp [hlen, h2, Tryz.results63]
theorem cap_sec (n : Int) : capI n 2147483647 = secI n := by unfold capI secI; omega
set_option maxHeartbeats 2000000 in
theorem rlife62 (x : Msg) (a g : Int) (hf : FdOk x.fs) (hl : ∀ n, (oneB x.fs n).1.length ≤ 100000) : PureC Tryz.prog 62 [msP x, .agg false [.int a, .int g]] (.tp [.int (lifeB parseD (ofB x a g)).1, .bool (lifeB parseD (ofB x a g)).2]) := by
  have hs := rsays60 x hf
  have hd := rdate98 x (ofB x a g).g hf (hl _)
  have he := rmoment78 x expN hf (by decide) (hl _)
  have hm := rmoment78 x lamN hf (by decide) (hl _)
  have hg := rget108 x.fs expN hf (by decide)
  have hw := When17 a g
  have hrk := of_ok x a g hf
  obtain ⟨d1, d2⟩ := dte_b parse_D x.fs hrk.g0 hrk.g1
  obtain ⟨e1, e2⟩ := mom_b parse_D x.fs expN
  obtain ⟨m1, m2⟩ := mom_b parse_D x.fs lamN
  have hgl := getB_len x.fs expN
  have hfl := hf.1
  obtain ⟨b0, b1, b2, b3, b4, b5, b6, i0, i1, i2, i3, hc⟩ := says_flat x.fs
  rw [hc] at hs
  simp only [ctlL, List.map_cons, List.map_nil, List.cons_append, List.nil_append] at hs
  refine pure_of_aw (ys := [_, _]) [] [] [] mixed Tryz.func62 rfl (by kernel_rfl) (by kernel_rfl) (by simp [Tryz.ntmps62]) rfl ?_
  unfold lifeB
  have eg : (ofB x a g).g = max (clkI g) (clkI a) := rfl
  have ex : (ofB x a g).x = x := rfl
  have ec : (ofB x a g).c = saysB x.fs := rfl
  rw [ex, ec, hc]
  rw [← eg] at hw
  generalize (ofB x a g).g = G at *
  generalize dteB parseD x.fs G = d at *
  generalize momB parseD x.fs expN = E at *
  generalize momB parseD x.fs lamN = M at *
  generalize getB x.fs expN = L at *
  obtain ⟨ev, eo⟩ := E
  obtain ⟨mv, mo⟩ := M
  simp
  refine pcall_of hs (by simp) ?_
  simp
  refine pcall_of hw (by simp) ?_
  by_cases c1 : 0 ≤ i1
  · simp [c1, Tryz.results62]
  by_cases c2 : 0 ≤ i0
  · simp [c1, c2, Tryz.results62]
  simp [c1, c2]
  refine pcall_of hg (by simp [expN]) ?_
  cases L with
  | cons v L =>
    have c3 : (0 : Int) < (L.length : Int) + 1 := by omega
    simp [c3]
    refine pcall_of he (by simp [expN]) ?_
    cases eo with
    | false => simp [Tryz.results62]
    | true =>
      simp
      refine pcall_of hd (by simp) ?_
      simp
      simp (disch := omega) only [wrap64_id]
      refine pcall_of (cap52 (ev - d) 2147483647) (by simp) ?_
      simp [cap_sec, Tryz.results62]
  | nil =>
    simp
    refine pcall_of hm (by simp [lamN]) ?_
    cases mo with
    | false => simp [Tryz.results62]
    | true =>
      simp
      refine pcall_of (rheur63 x.st) (by simp) ?_
      by_cases c4 : x.st ∈ heurL
      · simp [c4]
        refine pcall_of hd (by simp) ?_
        by_cases c5 : d < mv
        · simp [c5, Tryz.results62]
        · simp [c5]
          refine pcall_of hd (by simp) ?_
          simp
          have w1 : IntKind.i64.wrap ((d - mv).tdiv 10) = (d - mv).tdiv 10 := by
            rw [Int.tdiv_eq_ediv_of_nonneg (by omega)]; exact wrap64_id (by omega) (by omega)
          simp (disch := omega) only [wrap64_id, w1]
          refine pcall_of (cap52 ((d - mv).tdiv 10) 2147483647) (by simp) ?_
          simp [cap_sec, Tryz.results62]
      · simp [c4, Tryz.results62]
end Go.Av

/-! part Z166 -/
namespace Go.Av
open Go.Proofs
set_option maxRecDepth 100000
theorem rlower_nc (s : List UInt8) : (lowB s == [110, 111, 45, 99, 97, 99, 104, 101]) = ncP s := by
  unfold ncP nocN
  by_cases h : lowB s = [110, 111, 45, 99, 97, 99, 104, 101] <;> simp [h]
set_option maxHeartbeats 2000000 in
theorem rask26 (x : Msg) (hf : FdOk x.fs) : PureC Tryz.prog 26 [msP x] (.agg false (ctlL (askB x.fs))) := by
  have hs := rsays60 x hf
  have hh := has40 x ccN hf (by decide)
  have hsp := rsplit_get x.fs praN hf
  have hp := piece_get x.fs praN hf
  have hn := split_cnt x.fs praN hf
  obtain ⟨b0, b1, b2, b3, b4, b5, b6, i0, i1, i2, i3, hc⟩ := says_flat x.fs
  rw [hc] at hs
  simp only [ctlL, List.map_cons, List.map_nil, List.cons_append, List.nil_append] at hs
  have hA : ctlL (askB x.fs) = [.bool b0, .bool (b1 || (!hasN x.fs ccN && (splitB (getB x.fs praN)).any ncP)), .bool b2, .bool b3, .bool b4, .bool b5, .bool b6, .int i0, .int i1, .int i2, .int i3] := by
    unfold askB
    rw [hc]
    by_cases h : (!hasN x.fs ccN && (splitB (getB x.fs praN)).any ncP) = true
    · rw [if_pos h, h]; simp [ctlL]
    · rw [if_neg h]; simp only [Bool.not_eq_true] at h; rw [h]; simp [ctlL]
  rw [hA]
  refine pure_of_aw (ys := [_]) [] [] [] mixed Tryz.func26 rfl (by kernel_rfl) (by kernel_rfl) (by simp [Tryz.ntmps26]) rfl ?_
  generalize splitB (getB x.fs praN) = S at *
  generalize hasN x.fs ccN = H at *
  obtain ⟨F, hF⟩ : ∃ F : Nat → Bool, ∀ i, F i = (b1 || (!H && (S.take i).any ncP)) := ⟨_, fun _ => rfl⟩
  have hF0 : F 0 = b1 := by rw [hF]; simp
  have hFl : (b1 || (!H && S.any ncP)) = F S.length := by rw [hF, List.take_length]
  have hFs : ∀ i (h : i < S.length), (ncP S[i] = false ∨ H = true) → F (i + 1) = F i := fun i h e => by
    rw [hF, hF, List.take_succ_eq_append_getElem h, List.any_append]
    rcases e with e | e
    · simp [e]
    · simp [e]
  have hFt : ∀ i (h : i < S.length), ncP S[i] = true → H = false → F (i + 1) = true := fun i h e e' => by
    rw [hF, List.take_succ_eq_append_getElem h, List.any_append]
    simp [e, e']
  rw [hFl]
  clear hFl hF
  simp
  refine pcall_of hs (by simp) ?_
  simp
  refine pcall_of (rget108 x.fs praN hf (by decide)) (by simp [praN]) ?_
  simp
  refine pcall_of hsp (by simp) ?_
  simp
  refine aw_loop (fun i : Nat => i ≤ S.length) (fun i => [(1, .p (.ref (msP x))), (2, .obj 0 0), (3, .obj 1 0), (4, .p (.sl (S.map PC.str))), (5, .p (.int i))])
    (fun i => ⟨[(1, ⟨42, 11, [.p (.bool b0), .p (.bool (F i)), .p (.bool b2), .p (.bool b3), .p (.bool b4), .p (.bool b5), .p (.bool b6), .p (.int i0), .p (.int i1), .p (.int i2), .p (.int i3)]⟩), (0, ⟨42, 11, [.p (.bool false), .p (.bool false), .p (.bool false), .p (.bool false), .p (.bool false), .p (.bool false), .p (.bool false), .p (.int 0), .p (.int 0), .p (.int 0), .p (.int 0)]⟩)], [], 2⟩) (fun i => S.length - i) 0 (by omega) _ (AS.le_refl _ _) (leN_id (by simp [hF0])) ?_
  intro i hi
  by_cases c : i < S.length
  · have wi : IntKind.i64.wrap ((i : Int) + 1) = ((i + 1 : Nat) : Int) := by rw [wrap64_id (by omega) (by omega)]; rfl
    have hl := hp S[i] (List.getElem_mem c)
    have hlo := rlower32 S[i] (by omega)
    simp [c]
    refine pcall_of hlo (by simp) ?_
    cases hnc : ncP S[i] with
    | false =>
      have e := hFs i c (.inl hnc)
      simp [rlower_nc, hnc, wi]
      exact ⟨i + 1, by omega, by omega, leN_id (by simp [e])⟩
    | true =>
      simp [rlower_nc, hnc]
      refine pcall_of hh (by simp [ccN]) ?_
      cases H with
      | true =>
        have e := hFs i c (.inr rfl)
        simp [wi]
        exact ⟨i + 1, by omega, by omega, leN_id (by simp [e])⟩
      | false =>
        have e := hFt i c hnc rfl
        simp [wi]
        exact ⟨i + 1, by omega, by omega, leN_id (by simp [e])⟩
  · obtain rfl : i = S.length := by omega
    simp [Tryz.results26]
theorem rown28 (x : Msg) (hf : FdOk x.fs) : PureC Tryz.prog 28 [msP x] (.bool (ownL.any (hasN x.fs))) := by
  have h1 := has40 x [105, 102, 45, 110, 111, 110, 101, 45, 109, 97, 116, 99, 104] hf (by decide)
  have h2 := has40 x [105, 102, 45, 109, 111, 100, 105, 102, 105, 101, 100, 45, 115, 105, 110, 99, 101] hf (by decide)
  have h3 := has40 x [105, 102, 45, 109, 97, 116, 99, 104] hf (by decide)
  have h4 := has40 x [105, 102, 45, 117, 110, 109, 111, 100, 105, 102, 105, 101, 100, 45, 115, 105, 110, 99, 101] hf (by decide)
  have h5 := has40 x [105, 102, 45, 114, 97, 110, 103, 101] hf (by decide)
  have h6 := has40 x rngN hf (by decide)
  simp only [ownL, List.any_cons, List.any_nil, Bool.or_false]
  refine pure_of_aw (ys := [_]) [] [] [] mixed Tryz.func28 rfl (by kernel_rfl) (by kernel_rfl) (by simp [Tryz.ntmps28]) rfl ?_
  generalize hasN x.fs [105, 102, 45, 110, 111, 110, 101, 45, 109, 97, 116, 99, 104] = c1 at *
  generalize hasN x.fs [105, 102, 45, 109, 111, 100, 105, 102, 105, 101, 100, 45, 115, 105, 110, 99, 101] = c2 at *
  generalize hasN x.fs [105, 102, 45, 109, 97, 116, 99, 104] = c3 at *
  generalize hasN x.fs [105, 102, 45, 117, 110, 109, 111, 100, 105, 102, 105, 101, 100, 45, 115, 105, 110, 99, 101] = c4 at *
  generalize hasN x.fs [105, 102, 45, 114, 97, 110, 103, 101] = c5 at *
  generalize hasN x.fs rngN = c6 at *
  simp
  refine pcall_of h1 (by simp) ?_
  cases c1 with
  | true => simp [Tryz.results28]
  | false =>
  simp
  refine pcall_of h2 (by simp) ?_
  cases c2 with
  | true => simp [Tryz.results28]
  | false =>
  simp
  refine pcall_of h3 (by simp) ?_
  cases c3 with
  | true => simp [Tryz.results28]
  | false =>
  simp
  refine pcall_of h4 (by simp) ?_
  cases c4 with
  | true => simp [Tryz.results28]
  | false =>
  simp
  refine pcall_of h5 (by simp) ?_
  cases c5 with
  | true => simp [Tryz.results28]
  | false =>
  simp
  refine pcall_of h6 (by simp [rngN]) ?_
  simp [Tryz.results28]
theorem rnames_get (fs : List Fd) (n : List UInt8) (hf : FdOk fs) : PureC Tryz.prog 61 [.sl ((getB fs n).map PC.str)] (.tp [.sl (((rnamesN (getB fs n)).getD []).map PC.str), .bool (rnamesN (getB fs n)).isSome]) := by
  have hl := getB_len fs n
  have ht := getB_tot fs n
  have h1 := hf.1
  have h2 := hf.2.1
  exact rnames41 _ (by omega) (by omega) (fun v hv => Nat.le_trans (totB_mem hv) (by omega))
theorem rnames_some (vs : List (List UInt8)) : (rnamesN vs).isSome = (varyN vs).isSome := by
  unfold rnamesN varyN
  cases namesF (splitB vs) <;> rfl
set_option maxHeartbeats 4000000 in
theorem rstor24 (q r : Msg) (hq : FdOk q.fs) (hr : FdOk r.fs) (hl : ∀ n, (oneB r.fs n).1.length ≤ 100000) : PureC Tryz.prog 24 [msP q, msP r] (.bool (storB parseD q r)) := by
  have hs2 := rsays60 r hr
  have hh1 := has40 q rngN hq (by decide)
  have hh2 := has40 q autN hq (by decide)
  have hv := rnames_get r.fs varyH hr
  have hlf := rlife62 r 0 0 hr hl
  have hk := rask26 q hq
  have hu := rheur63 r.st
  obtain ⟨a0, a1, a2, a3, a4, a5, a6, j0, j1, j2, j3, hc2⟩ := says_flat r.fs
  obtain ⟨k0, k1, k2, k3, k4, k5, k6, l0, l1, l2, l3, hc3⟩ := ask_flat q.fs
  obtain ⟨R, hR⟩ : ∃ R, R = storB parseD q r := ⟨_, rfl⟩
  rw [← hR]
  unfold storB at hR
  simp only [hc2, hc3, bN] at hR
  rw [hc2] at hs2
  rw [hc3] at hk
  rw [← rnames_some] at hR
  generalize hasN q.fs rngN = B1 at *
  generalize hasN q.fs autN = B2 at *
  generalize lifeB parseD (ofB r 0 0) = L at *
  generalize (rnamesN (getB r.fs varyH)).isSome = V at *
  generalize ((rnamesN (getB r.fs varyH)).getD []).map PC.str = VL at *
  generalize decide (r.st ∈ heurL) = H at *
  obtain ⟨L1, L2⟩ := L
  simp only [ctlL, List.map_cons, List.map_nil, List.cons_append, List.nil_append] at hs2 hk
  simp only [List.getD_cons_zero, List.getD_cons_succ] at hR
  refine pure_of_aw (ys := [_]) [] [] [] mixed Tryz.func24 rfl (by kernel_rfl) (by kernel_rfl) (by simp [Tryz.ntmps24]) rfl ?_
  simp
  refine pcall_of hs2 (by simp) ?_
  simp only [getM] at hR
  by_cases c1 : q.m = [71, 69, 84]
  case neg =>
    have d1 : (q.m != [71, 69, 84]) = true := by simpa using c1
    simp [c1] at hR
    simp [d1, c1, hR, Tryz.results24]
  have d1 : (q.m != [71, 69, 84]) = false := by simpa using c1
  simp [d1]
  refine pcall_of hh1 (by simp [rngN]) ?_
  cases B1 with
  | true =>
    simp at hR
    simp [hR, Tryz.results24]
  | false =>
  simp [c1] at hR
  simp
  by_cases s1 : r.st < 200
  · simp [s1] at hR
    simp [s1, hR, Tryz.results24]
  by_cases s2 : r.st = 206
  · simp [s2] at hR
    simp [s2, hR, Tryz.results24]
  by_cases s3 : r.st = 304
  · simp [s3] at hR
    simp [s3, hR, Tryz.results24]
  have e2 : (r.st == 206) = false := by simpa using s2
  have e3 : (r.st == 304) = false := by simpa using s3
  simp [s1, s2, s3] at hR
  simp [s1, s2, s3, e2, e3]
  refine pcall_of hk (by simp) ?_
  cases k0 with
  | true => simp at hR; simp [hR, Tryz.results24]
  | false =>
  cases a0 with
  | true => simp at hR; simp [hR, Tryz.results24]
  | false =>
  cases a3 with
  | true => simp at hR; simp [hR, Tryz.results24]
  | false =>
  simp at hR
  simp
  refine pcall_of hh2 (by simp [autN]) ?_
  by_cases sj : j1 < 0
  all_goals
    cases B2 <;> cases a2 <;> cases a4 <;> cases L2 <;> cases V
    all_goals
      simp [sj] at hR
      first
        | (simp [sj, hR, Tryz.results24]; done)
        | (simp [sj]; refine pcall_of (rget108 r.fs varyH hr (by decide)) (by simp [varyH]) ?_
           simp; refine pcall_of hv (by simp) ?_
           simp; refine pcall_of hlf (by simp) ?_
           first
            | (simp [hR, Tryz.results24]; done)
            | (simp; refine pcall_of hu (by simp) ?_; cases H <;> (try simp at hR) <;> simp [hR, Tryz.results24]; done))
end Go.Av

/-! part Z167 -/
namespace Go.Av
open Go.Proofs
set_option maxRecDepth 100000
end Go.Av

/-! part Z168 -/
namespace Go.Av
open Go.Proofs
set_option maxRecDepth 100000
set_option maxHeartbeats 4000000 in
theorem law7 (q r : Msg) (hq : lenOk q) (hr : lenOk r) : PureC Tryz.prog 7 [msP q, msP r] (.bool true) := by
  have hsh := short22 [q, r] (by simp) (by simp [hq, hr])
  simp only [List.map_cons, List.map_nil, List.all_cons, List.all_nil, Bool.and_true] at hsh
  refine pure_of_aw (ys := [_]) [] [] [] mixed Tryz.func7 rfl (by kernel_rfl) (by kernel_rfl) (by simp [Tryz.ntmps7]) rfl ?_
  simp
  refine pcall_of awake21 (by simp) ?_
  simp
  refine pcall_of hsh (by simp) ?_
  cases hb : (shrM q && shrM r) with
  | false =>
    simp
    refine pcall_of awake21 (by simp) ?_
    simp [Tryz.results7]
  | true =>
  obtain ⟨b1, b2⟩ := Bool.and_eq_true_iff.1 hb
  obtain ⟨q1, q2⟩ := shr_ok b1
  obtain ⟨r1, r2⟩ := shr_ok b2
  have hq0 := fd_ok2 (by omega) q2
  have hr0 := fd_ok2 (by omega) r2
  have hs := Storable23 parseD parse_D q r hq0 hr0 (parse_Fs2 r2)
  have hs' := rstor24 q r hq0 hr0 (fun n => by have := one_len r2 n; omega)
  have ha := Ask25 q hq0
  have ha' := rask26 q hq0
  have ho := Own27 q hq0
  have ho' := rown28 q hq0
  obtain ⟨k0, k1, k2, k3, k4, k5, k6, l0, l1, l2, l3, hc3⟩ := ask_flat q.fs
  rw [hc3] at ha ha'
  simp only [ctlL, List.map_cons, List.map_nil, List.cons_append, List.nil_append] at ha ha'
  generalize storB parseD q r = S at *
  generalize ownL.any (hasN q.fs) = O at *
  simp
  refine call_of hs ?_
  simp
  refine call_of hs' ?_
  simp
  refine call_of ha ?_
  simp
  refine call_of ha' ?_
  simp
  refine call_of ho ?_
  simp
  refine call_of ho' ?_
  simp [Tryz.results7]
end Go.Av

/-! part Z169 -/
namespace Go.Av
open Go.Proofs
theorem law7n {x y : PC} (hx : msgS x) (hy : msgS y) : PureC Tryz.prog 7 [x, y] (.bool true) := by
  obtain ⟨q, rfl, h1⟩ := hx
  obtain ⟨r, rfl, h2⟩ := hy
  exact law7 q r ⟨h1.fs, h1.b⟩ ⟨h2.fs, h2.b⟩
end Go.Av
