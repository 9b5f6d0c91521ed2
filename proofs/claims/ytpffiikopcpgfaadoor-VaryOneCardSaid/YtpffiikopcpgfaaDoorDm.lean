/- Known names say something, other names nothing; ControlQuiet computes true. -/
import Derived.Test.YtpffiikopcpgfaaDoorDl
set_option linter.all false
/-! part Q70 -/
namespace Go.Av
open Go.Proofs

theorem eq_ctl {c d : Ctl} (h7 : c.1.length = 7) (h4 : c.2.length = 4) (g7 : d.1.length = 7) (g4 : d.2.length = 4) {b : Bool} (hb : b = decide (c = d)) : eqL Tryd.prog (ctlL c) (ctlL d) (fldL Tryd.prog 38) = some b := by
  subst hb
  obtain ⟨b0, b1, b2, b3, b4, b5, b6, i0, i1, i2, i3, rfl⟩ := ctl_ex h7 h4
  obtain ⟨c0, c1, c2, c3, c4, c5, c6, j0, j1, j2, j3, rfl⟩ := ctl_ex g7 g4
  simp [ctlL]
  rw [Bool.eq_iff_iff]
  simp [and_assoc]
def knownL : List (List UInt8) := [nm0, nm1, nm2, nm3, nm4, nm5, nm6, nm7, nm8, nm9, nm10]
theorem numB_nn (m : Nat) (l : List UInt8) : 0 ≤ (numB m l).1 := by
  unfold numB; split
  · simp
  · split <;> simp
theorem numD_nn (a : List UInt8) (has : Bool) {wo : Int} (h : 0 ≤ wo) : 0 ≤ numD a has wo := by
  unfold numD; split
  · exact h
  · split
    · simp
    · exact numB_nn _ _
theorem stepN_known {n : List UInt8} (h : n ∈ knownL) {v : Int} (hv : 0 ≤ v) : stepN n v ctl0 ≠ ctl0 := by
  rw [ctl0_eq, stepN_eq]
  have hv1 : v ≠ -1 := by omega
  simp only [knownL, List.mem_cons, List.not_mem_nil, or_false] at h
  rcases h with h | h | h | h | h | h | h | h | h | h | h <;> subst h <;> simp [hv1, nm0, nm1, nm2, nm3, nm4, nm5, nm6, nm7, nm8, nm9, nm10]
theorem stepN_other {n : List UInt8} (h : n ∉ knownL) (v : Int) (c : Ctl) : stepN n v c = c := by
  simp only [knownL, List.mem_cons, List.not_mem_nil, or_false, not_or] at h
  obtain ⟨h0, h1, h2, h3, h4, h5, h6, h7, h8, h9, h10⟩ := h
  simp [stepN, flagI, cntI, h0, h1, h2, h3, h4, h5, h6, h7, h8, h9, h10]
theorem known_name {n : List UInt8} (h : tkB n = true) (hk : lowB n ∈ knownL) : parseB [n] ≠ ctl0 := by
  rw [parse_one (spl_name h) (readB_name h)]
  exact stepN_known hk (numD_nn _ _ (by split <;> omega))
theorem known_arg {n a : List UInt8} (h : tkB n = true) (ha : tkB a = true) (hk : lowB n ∈ knownL) : parseB [n ++ 61 :: a] ≠ ctl0 := by
  rw [parse_one (spl_arg h ha) (readB_arg h ha)]
  exact stepN_known hk (numD_nn _ _ (by split <;> omega))
theorem other_all {n a : List UInt8} (h : tkB n = true) (ha : tkB a = true) (hk : lowB n ∉ knownL) : parseB [n, n ++ 61 :: a, n ++ 61 :: 34 :: (a ++ [34])] = ctl0 := by
  have hp : ∀ c ∈ a, c ≠ 34 ∧ c ≠ 92 ∧ plnB c = true := fun c hc => by have := tok_plain ((tk_all ha).2 c hc); exact ⟨this.1, this.2.1, this.2.2.2.2.2⟩
  unfold parseB splitB
  simp only [List.flatMap_cons, List.flatMap_nil, List.append_nil, spl_name h, spl_arg h ha, spl_quo h (fun c hc => ⟨(hp c hc).1, (hp c hc).2.1⟩), List.singleton_append, List.foldl_cons, List.foldl_nil, stepC_eq, readB_name h, readB_arg h ha, readB_quo h hp, Bool.true_eq_false, if_false]
  rw [stepN_other hk, stepN_other hk, stepN_other hk]
end Go.Av

/-! part Q71 -/
namespace Go.Av
open Go.Proofs

set_option maxHeartbeats 4000000 in
set_option maxRecDepth 100000 in
theorem law8 (n a : List UInt8) (hn : n.length ≤ 9223372036854775807) (ha : a.length ≤ 9223372036854775807) : PureC Tryd.prog 8 [.str n, .str a] (.bool true) := by
  refine pure_of_aw (ys := [_]) [] [] [] mixed Tryd.func8 rfl (by kernel_rfl) (by kernel_rfl) (by simp [Tryd.ntmps8]) rfl ?_
  simp
  refine pcall_of awake25 rfl ?_
  by_cases c : n.length ≤ 100
  case neg =>
    have d : (100 : Int) < (n.length : Int) := by omega
    simp [d, show 100 < n.length by omega]
    refine pcall_of awake25 rfl ?_
    simp [Tryd.results8]
  have d : ¬ (100 : Int) < (n.length : Int) := by omega
  by_cases c2 : a.length ≤ 100
  case neg =>
    have d2 : (100 : Int) < (a.length : Int) := by omega
    simp [d, show ¬ 100 < n.length by omega, d2, show 100 < a.length by omega]
    refine pcall_of awake25 rfl ?_
    simp [Tryd.results8]
  have d2 : ¬ (100 : Int) < (a.length : Int) := by omega
  simp [d, show ¬ 100 < n.length by omega, d2, show ¬ 100 < a.length by omega]
  refine pcall_of (rtoken31 tchar70 n (by omega)) (by simp) ?_
  cases h1 : tkB n with
  | false =>
    simp
    refine pcall_of awake25 rfl ?_
    simp [Tryd.results8]
  | true =>
  simp
  refine pcall_of (rtoken31 tchar70 a (by omega)) (by simp) ?_
  cases h2 : tkB a with
  | false =>
    simp
    refine pcall_of awake25 rfl ?_
    simp [Tryd.results8]
  | true =>
  simp
  have hkl : knownL.length = 11 := rfl
  refine aw_loop0 (fun k : Nat => k ≤ 11 ∧ ∀ m ∈ knownL.take k, lowB n ≠ m) (fun k => [(0, .p (.str n)), (1, .p (.str a)), (5, .p (.sl (knownL.map PC.str))), (6, .p (.int k))]) (fun k => 11 - k) 0 (by simp) (leN_id (by simp [knownL, nm0, nm1, nm2, nm3, nm4, nm5, nm6, nm7, nm8, nm9, nm10])) ?_
  rintro k ⟨g1, g2⟩
  have p1 := parse26 [n] (by simp) (by simp [totB]; omega) (by simp; omega)
  have p2 := parse26 [n ++ 61 :: a] (by simp) (by simp [totB]; omega) (by simp; omega)
  by_cases ck : k < 11
  · have ck2 : (k : Int) < 11 := by omega
    simp [ck, ck2, hkl]
    refine call_of (rlower32 n (by omega)) ?_
    have e0 : knownL[k]? = some knownL[k] := List.getElem?_eq_getElem (by omega)
    by_cases e : lowB n = knownL[k]
    · have d1 : (lowB n == knownL[k]) = true := by simpa using e
      have hm : lowB n ∈ knownL := by rw [e]; exact List.getElem_mem _
      have q1 := eq_ctl (parseB_len [n]).1 (parseB_len [n]).2 (d := ctl0) rfl rfl (b := false) (by rw [eq_comm, decide_eq_false_iff_not]; exact known_name h1 hm)
      have q2 := eq_ctl (parseB_len [n ++ 61 :: a]).1 (parseB_len [n ++ 61 :: a]).2 (d := ctl0) rfl rfl (b := false) (by rw [eq_comm, decide_eq_false_iff_not]; exact known_arg h1 h2 hm)
      simp [e0, d1]
      refine pcall_of p1 (by simp) ?_
      simp
      refine pcall_of none28 rfl ?_
      simp [↓q1]
      refine ⟨by omega, by omega, ?_⟩
      refine pcall_of p2 (by simp) ?_
      simp
      refine pcall_of none28 rfl ?_
      simp [↓q2, Tryd.results8]
    · have d1 : (lowB n == knownL[k]) = false := by simpa using e
      simp [e0, d1]
      refine ⟨k + 1, ⟨by omega, ?_⟩, by omega, leN_id ?_⟩
      · intro m hm
        rw [List.take_succ_eq_append_getElem (by omega)] at hm
        rcases List.mem_append.1 hm with hm | hm
        · exact g2 m hm
        · simp at hm; subst hm; exact e
      · simp [wrap64_id (n := (k : Int) + 1) (by omega) (by omega)]
  obtain rfl : k = 11 := by omega
  have hk : lowB n ∉ knownL := fun h => g2 _ (by rw [← hkl, List.take_length]; exact h) rfl
  have p3 := parse26 [n, n ++ 61 :: a, n ++ 61 :: 34 :: (a ++ [34])] (by simp) (by simp [totB]; omega) (by simp; omega)
  rw [other_all h1 h2 hk] at p3
  have q3 := eq_ctl (c := ctl0) (d := ctl0) rfl rfl rfl rfl (b := true) (by simp)
  simp [hkl]
  refine ⟨by omega, by omega, by omega, by omega, by omega, ?_⟩
  refine pcall_of p3 (by simp) ?_
  simp
  refine pcall_of none28 rfl ?_
  simp [↓q3, Tryd.results8]
theorem law8n {x y : PC} (hx : strS x) (hy : strS y) : PureC Tryd.prog 8 [x, y] (.bool true) := by
  obtain ⟨n, rfl, h1⟩ := hx
  obtain ⟨a, rfl, h2⟩ := hy
  exact law8 n a h1 h2
end Go.Av
