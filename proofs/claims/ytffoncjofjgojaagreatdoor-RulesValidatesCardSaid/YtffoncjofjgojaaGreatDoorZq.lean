/- The document's readings of a response and its rules; RulesStores and RulesValidates compute true. -/
import Derived.Test.YtffoncjofjgojaaGreatDoorZp
set_option linter.all false
/-! part Z164 -/
namespace Go.Av
open Go.Proofs
set_option maxRecDepth 100000
theorem rpd118 (s : List UInt8) (hs : s.length ≤ 100000) : PureC Tryz.prog 118 [.str s] (.tp [.int (parseD s).1, .int (parseD s).2]) := by
  have h := rparse118 s hs
  rw [parse_eq] at h
  exact h
theorem rmoment78 (x : Msg) (n : List UInt8) (hf : FdOk x.fs) (hn : n.length ≤ 1000000) (hl : (oneB x.fs n).1.length ≤ 100000) : PureC Tryz.prog 78 [msP x, .str n] (.tp [.int (momB parseD x.fs n).1, .bool (momB parseD x.fs n).2]) := by
  have hgl := getB_len x.fs n
  have h1 := hf.1
  refine pure_of_aw (ys := [_, _]) [] [] [] mixed Tryz.func78 rfl (by kernel_rfl) (by kernel_rfl) (by simp [Tryz.ntmps78]) rfl ?_
  simp
  refine pcall_of (rget108 x.fs n hf hn) (by simp) ?_
  unfold momB
  unfold oneB at *
  generalize getB x.fs n = L at *
  match L, hgl with
  | [], _ => simp [Tryz.results78]
  | [v], _ =>
    simp
    refine pcall_of (rpd118 v hl) (by simp) ?_
    simp [Tryz.results78]
  | a :: b :: L, hgl =>
    have c : ((L.length : Int) + 1 + 1 != 1) = true := by simp; omega
    simp [c, Tryz.results78]
end Go.Av

/-! part Z165 -/
namespace Go.Av
open Go.Proofs
set_option maxRecDepth 100000
end Go.Av

/-! part Z166 -/
namespace Go.Av
open Go.Proofs
set_option maxRecDepth 100000
end Go.Av

/-! part Z167 -/
namespace Go.Av
open Go.Proofs
set_option maxRecDepth 100000
theorem bare77 (s : List UInt8) : PureC Tryz.prog 77 [.str s] (.str (bareB s)) := by
  refine pure_of_aw (ys := [_]) [] [] [] mixed Tryz.func77 rfl (by kernel_rfl) (by kernel_rfl) (by simp [Tryz.ntmps77]) rfl ?_
  unfold bareB
  match s with
  | [] => simp [Tryz.results77]
  | [a] => simp [Tryz.results77]
  | a :: b :: l =>
    have d1 : (2 : Int) ≤ (l.length : Int) + 1 + 1 := by omega
    cases e1 : (a == 87) <;> cases e2 : (b == 47)
    all_goals
      have f1 := e1
      have f2 := e2
      simp at f1 f2
      simp [d1, e1, e2, f1, f2, Tryz.results77]
theorem rcond43 (x : Msg) (hf : FdOk x.fs) (hl : (oneB x.fs lamN).1.length ≤ 100000) : PureC Tryz.prog 43 [msP x] (.sl ((condF parseD x.fs).map fdP)) := by
  have h1 := rone47 x tagN hf (by decide)
  have h2 := rone47 x lamN hf (by decide)
  have h3 := rmoment78 x lamN hf (by decide) hl
  refine pure_of_aw (ys := [_]) [] [] [] mixed Tryz.func43 rfl (by kernel_rfl) (by kernel_rfl) (by simp [Tryz.ntmps43]) rfl ?_
  unfold condF
  generalize oneB x.fs tagN = p at *
  generalize oneB x.fs lamN = q at *
  generalize momB parseD x.fs lamN = r at *
  obtain ⟨p1, p2⟩ := p
  obtain ⟨q1, q2⟩ := q
  obtain ⟨r1, r2⟩ := r
  simp
  refine pcall_of h1 (by simp [tagN]) ?_
  cases p2 <;> simp
  all_goals
    refine pcall_of h2 (by simp [lamN]) ?_
    simp
    refine pcall_of h3 (by simp [lamN]) ?_
    cases r2 <;> simp [inmH, imsH, Tryz.results43]
set_option maxHeartbeats 2000000 in
theorem rconf45 (k r : Msg) (hk : FdOk k.fs) (hr : FdOk r.fs) : PureC Tryz.prog 45 [msP k, msP r] (.bool (confB k r)) := by
  have h1 := rone47 k tagN hk (by decide)
  have h2 := rone47 r tagN hr (by decide)
  have h3 := rone47 k lamN hk (by decide)
  have h4 := rone47 r lamN hr (by decide)
  have h5 := bare77 (oneB r.fs tagN).1
  have h6 := bare77 (oneB k.fs tagN).1
  refine pure_of_aw (ys := [_]) [] [] [] mixed Tryz.func45 rfl (by kernel_rfl) (by kernel_rfl) (by simp [Tryz.ntmps45]) rfl ?_
  unfold confB
  by_cases hs : r.st = 304
  case neg =>
    have d : (r.st != 304) = true := by simpa using hs
    simp [d, hs, Tryz.results45]
  have d : (r.st != 304) = false := by simpa using hs
  have ea : alikB (oneB r.fs tagN).1 (oneB k.fs tagN).1 = (bareB (oneB k.fs tagN).1 == bareB (oneB r.fs tagN).1) := by
    unfold alikB
    by_cases e : bareB (oneB r.fs tagN).1 = bareB (oneB k.fs tagN).1
    · simp [e]
    · have e' : ¬ bareB (oneB k.fs tagN).1 = bareB (oneB r.fs tagN).1 := fun h => e h.symm
      simp [e, e']
  rw [ea]
  generalize oneB k.fs tagN = p1 at *
  generalize oneB r.fs tagN = p2 at *
  generalize oneB k.fs lamN = p3 at *
  generalize oneB r.fs lamN = p4 at *
  obtain ⟨p1, b1⟩ := p1
  obtain ⟨p2, b2⟩ := p2
  obtain ⟨p3, b3⟩ := p3
  obtain ⟨p4, b4⟩ := p4
  simp [d]
  refine pcall_of h1 (by simp [tagN]) ?_
  simp
  refine pcall_of h2 (by simp [tagN]) ?_
  cases b2 with
  | true =>
    cases b1 with
    | false => simp [hs, Tryz.results45]
    | true =>
      simp
      refine pcall_of h6 (by simp) ?_
      simp
      refine pcall_of h5 (by simp) ?_
      simp [hs, Tryz.results45]
  | false =>
    simp
    refine pcall_of h3 (by simp [lamN]) ?_
    simp
    refine pcall_of h4 (by simp [lamN]) ?_
    cases b4 with
    | false => simp [hs, Tryz.results45]
    | true =>
      cases b3 with
      | false => simp [hs, Tryz.results45]
      | true =>
        by_cases e : p4 = p3
        · simp [hs, e, Tryz.results45]
        · have e' : ¬ p3 = p4 := fun h => e h.symm
          have e2 : (p3 == p4) = false := by simpa using e'
          simp [hs, e, e', e2, Tryz.results45]
set_option maxHeartbeats 2000000 in
theorem rupd46 (ks rs : List Fd) (hf : FdOk rs) (hs : (splitB (getB rs cnnN)).length ≤ 900000) (hk1 : ks.length ≤ 100000) (hk2 : ∀ f ∈ ks, f.1.length ≤ 1000000) (hr1 : rs.length ≤ 100000) :
    PureC Tryz.prog 46 [.sl (ks.map fdP), .sl (rs.map fdP)] (.sl ((updF ks rs).map fdP)) := by
  have hK := rkept36 rs hf hs
  have kl := kept_len rs
  have kss := kept_sub rs
  obtain ⟨M, hM⟩ : ∃ M, M = moreF rs := ⟨_, rfl⟩
  have hM2 := hM
  unfold moreF at hM2
  have hMl : M.length ≤ (keptF rs).length := by rw [hM2]; exact with_len _ _
  have hMs : ∀ f ∈ M, f.1.length ≤ 1000000 := fun f h => by
    rw [hM2] at h
    exact hf.2.2 f (kss f (with_sub _ _ f h))
  have hR : updF ks rs = withB (M.map (·.1)) ks ++ M := by unfold updF; rw [hM]
  rw [hR]
  have hu : updL.length = 4 := rfl
  have hul : ∀ n ∈ updL, n.length ≤ 1000000 := by decide
  refine pure_of_aw (ys := [_]) [] [] [] mixed Tryz.func46 rfl (by kernel_rfl) (by kernel_rfl) (by simp [Tryz.ntmps46]) rfl ?_
  generalize keptF rs = K at *
  have hKs : ∀ f ∈ K, f.1.length ≤ 1000000 := fun f h => hf.2.2 f (kss f h)
  simp
  refine pcall_of hK (by simp) ?_
  simp
  refine aw_loop0 (fun y : Nat × List Fd => y.1 ≤ 4 ∧ M = withB (updL.drop y.1) y.2 ∧ y.2.length ≤ K.length ∧ ∀ f ∈ y.2, f.1.length ≤ 1000000) (fun y => [(0, .p (.sl (ks.map fdP))), (5, .p (.sl (y.2.map fdP))), (6, .p (.sl (updL.map PC.str))), (7, .p (.int y.1))]) (fun y => 4 - y.1) (0, K) ⟨by simp, by simpa using hM2, by simp, hKs⟩ (leN_id (by simp [updL])) ?_
  rintro ⟨i, cur⟩ ⟨h1, h2, h3, h4⟩
  simp only at h1 h2 h3 h4
  by_cases c : i < 4
  · have c' : i < updL.length := by omega
    rw [List.drop_eq_getElem_cons c', with_cons] at h2
    have wi : IntKind.i64.wrap ((i : Int) + 1) = ((i + 1 : Nat) : Int) := by rw [wrap64_id (by omega) (by omega)]; rfl
    have ci : (i : Int) < 4 := by omega
    simp [c, c', ci, hu]
    refine pcall_of (rwithout81 cur updL[i] (by omega) h4 (hul _ (List.getElem_mem c'))) (by simp) ?_
    simp [wi]
    exact ⟨i + 1, cur.filter fun f => !isB updL[i] f, ⟨by omega, h2, Nat.le_trans (List.length_filter_le _ _) h3, fun a b h => h4 _ (List.mem_filter.1 h).1⟩, by omega, leN_id (by simp)⟩
  obtain rfl : i = 4 := by omega
  have hd4 : updL.drop 4 = [] := rfl
  rw [hd4, with_nil] at h2
  subst h2
  simp
  obtain ⟨O, hO⟩ : ∃ O, O = withB (M.map (·.1)) ks := ⟨_, rfl⟩
  rw [← hO]
  refine aw_loop0 (fun y : Nat × List Fd => y.1 ≤ M.length ∧ O = withB ((M.map (·.1)).drop y.1) y.2 ∧ y.2.length ≤ ks.length ∧ ∀ f ∈ y.2, f.1.length ≤ 1000000) (fun y => [(5, .p (.sl (M.map fdP))), (8, .p (.sl (y.2.map fdP))), (9, .p (.int y.1))]) (fun y => M.length - y.1) (0, ks) ⟨by simp, by simpa using hO, by simp, hk2⟩ (leN_id (by simp)) ?_
  rintro ⟨i, cur⟩ ⟨g1, g2, g3, g4⟩
  simp only at g1 g2 g3 g4
  by_cases c : i < M.length
  · have c' : i < (M.map (·.1)).length := by simpa using c
    rw [List.drop_eq_getElem_cons c', with_cons] at g2
    simp only [List.getElem_map] at g2
    have wi : IntKind.i64.wrap ((i : Int) + 1) = ((i + 1 : Nat) : Int) := by rw [wrap64_id (by omega) (by omega)]; rfl
    simp [c]
    refine pcall_of (rwithout81 cur M[i].1 (by omega) g4 (hMs _ (List.getElem_mem c))) (by simp) ?_
    simp [wi]
    exact ⟨i + 1, cur.filter fun f => !isB M[i].1 f, ⟨by omega, by simpa using g2, Nat.le_trans (List.length_filter_le _ _) g3, fun a b h => g4 _ (List.mem_filter.1 h).1⟩, by omega, leN_id (by simp)⟩
  obtain rfl : i = M.length := by omega
  have hdn : (M.map (·.1)).drop M.length = [] := by simp
  rw [hdn, with_nil] at g2
  subst g2
  have hOl : O.length ≤ 100000 := by omega
  have hMl2 : M.length ≤ 100000 := by omega
  simp [Tryz.results46]
  exact ⟨fun y a b _ e => by rw [← e]; rfl, by omega, by omega, fun y a b _ e => by rw [← e]; rfl, fun y a b _ e => by rw [← e]; rfl, by omega, by omega⟩
end Go.Av

/-! part Z168 -/
namespace Go.Av
open Go.Proofs
set_option maxRecDepth 100000
set_option maxHeartbeats 4000000 in
theorem law11 (k r : Msg) (hk : lenOk k) (hr : lenOk r) : PureC Tryz.prog 11 [msP k, msP r] (.bool true) := by
  have hsh := short22 [k, r] (by simp) (by simp [hk, hr])
  simp only [List.map_cons, List.map_nil, List.all_cons, List.all_nil, Bool.and_true] at hsh
  refine pure_of_aw (ys := [_]) [] [(4, [(16, .r 1), (26, .r 1), (33, .r 1)])] [(1, 0)] mixed Tryz.func11 rfl (by kernel_rfl) (by kernel_rfl) (by simp [Tryz.ntmps11]) rfl ?_
  simp
  refine pcall_of awake21 (by simp) ?_
  simp
  refine pcall_of hsh (by simp) ?_
  cases hb : (shrM k && shrM r) with
  | false =>
    simp
    refine pcall_of awake21 (by simp) ?_
    simp [Tryz.results11]
  | true =>
  obtain ⟨b1, b2⟩ := Bool.and_eq_true_iff.1 hb
  obtain ⟨k1, k2⟩ := shr_ok b1
  obtain ⟨r1, r2⟩ := shr_ok b2
  have kb := shr_b b1
  have rb := shr_b b2
  have hk0 := fd_ok2 (by omega) k2
  have hr0 := fd_ok2 (by omega) r2
  have hsr := split_small (by omega) r2 cnnN
  have hU := Update41 k r hr0 hsr (by omega) (by omega) (by omega) (fun f h => by have := (k2 f h).1; omega) (by omega)
  have hU' := rupd46 k.fs r.fs hr0 hsr (by omega) (fun f h => by have := (k2 f h).1; omega) (by omega)
  have hC := Condition42 parseD k hk0 (parse_Fs2 k2).lam
  have hC' := rcond43 k hk0 (by have := one_len k2 lamN; omega)
  have hcl : (condF parseD k.fs).length ≤ 2 := by
    unfold condF; rw [List.length_append]; split <;> split <;> simp
  have hSc := same35 (condF parseD k.fs) (condF parseD k.fs) (by omega) (by omega)
  rw [decide_eq_true rfl] at hSc
  have hF := Confirms44 k r hk0 hr0
  have hF' := rconf45 k r hk0 hr0
  have hul : (updF k.fs r.fs).length ≤ 1000000 := by
    have h1 := with_len ((moreF r.fs).map (·.1)) k.fs
    have h2 : (moreF r.fs).length ≤ (keptF r.fs).length := by unfold moreF; exact with_len _ _
    have h3 := kept_len r.fs
    unfold updF; rw [List.length_append]; omega
  have hSu := same35 (updF k.fs r.fs) (updF k.fs r.fs) hul hul
  rw [decide_eq_true rfl] at hSu
  simp only [updM] at hU
  generalize updF k.fs r.fs = U at *
  generalize condF parseD k.fs = C at *
  generalize confB k r = F at *
  simp
  refine pcall_of hU (by simp) ?_
  simp
  refine call_of hC ?_
  simp
  refine call_of hC' ?_
  simp
  refine call_of hSc ?_
  simp
  refine call_of hF ?_
  simp
  refine call_of hF' ?_
  simp
  refine call_of hU' ?_
  simp
  refine call_of hSu ?_
  simp [Tryz.results11]
end Go.Av

/-! part Z169 -/
namespace Go.Av
open Go.Proofs
theorem law11n {x y : PC} (hx : msgS x) (hy : msgS y) : PureC Tryz.prog 11 [x, y] (.bool true) := by
  obtain ⟨k, rfl, h1⟩ := hx
  obtain ⟨r, rfl, h2⟩ := hy
  exact law11 k r ⟨h1.fs, h1.b⟩ ⟨h2.fs, h2.b⟩
end Go.Av
