/- What the document prints, and of which lines; StartCuts computes true; how lines are read. -/
import Derived.Test.YtpffiikopcpgfaaDoorDe
set_option linter.all false
/-! part Q29 -/
namespace Go.Av
open Go.Proofs

theorem conv_l {P : Program} {s d : TypeId} {k : AV → Prop} {xs : List PC} (l : List UInt8) (h1 : isBytes P s = true) (h2 : isStr P d = true) (he : xs = bytesPC l) (hk : k (.p (.str l))) : convW P s d k (.p (.sl xs)) := ⟨h1, h2, l, he, hk⟩
/-- a figure -/
def dgc (d : Nat) : UInt8 := UInt8.ofNat (48 + d)
/-- a number's digits -/
def dec (n : Nat) : List UInt8 := if n < 10 then [dgc n] else dec (n / 10) ++ [dgc (n % 10)]
theorem dec_lt {n : Nat} (h : n < 10) : dec n = [dgc n] := by rw [dec, if_pos h]
theorem dec_ge {n : Nat} (h : ¬ n < 10) : dec n = dec (n / 10) ++ [dgc (n % 10)] := by rw [dec, if_neg h]
theorem digit_nat (d : Nat) (h : d < 10) : (dgc d).toNat = 48 + d := by
  unfold dgc; rw [UInt8.toNat_ofNat']; omega
theorem dec_dig : ∀ (f n : Nat), n ≤ f → (dec n).all dig = true
  | 0, n, h => by rw [dec_lt (by omega)]; simp [dig, digit_nat n (by omega)]; omega
  | f + 1, n, h => by
    by_cases c : n < 10
    · rw [dec_lt c]; simp [dig, digit_nat n c]; omega
    · rw [dec_ge c, List.all_append, dec_dig f (n / 10) (by omega)]
      simp [dig, digit_nat (n % 10) (by omega)]; omega
theorem dec_pos (n : Nat) : dec n ≠ [] := by
  by_cases c : n < 10
  · rw [dec_lt c]; simp
  · rw [dec_ge c]; simp
set_option maxHeartbeats 1000000 in
theorem rprint29 (n : Int) (h1 : -9223372036854775808 ≤ n) (h2 : n ≤ 9223372036854775807) : PureC Tryd.prog 29 [.int n, .int 10] (.str (dec n.toNat)) := by
  refine pure_of_aw (ys := [_]) [] [] [] mixed Tryd.func29 rfl (by kernel_rfl) (by kernel_rfl) (by simp [Tryd.ntmps29]) rfl ?_
  by_cases c0 : n < 0
  · have e : n.toNat = 0 := by omega
    rw [e, dec_lt (by omega)]
    simp [c0]
    refine aw_loop0 (fun y : Nat => y = 0) (fun y => [(0, .p (.int 0)), (1, .p (.int 10)), (5, .p (.str []))]) (fun y => y) 0 rfl (leN_id (by simp)) ?_
    rintro y rfl
    have e0 : IntKind.u8.wrap 0 = 0 := by rfl
    have e1 : IntKind.u8.wrap 48 = 48 := by rfl
    have e2 : IntKind.i64.wrap 0 = 0 := by rfl
    have e3 : dgc 0 = 48 := by rfl
    simp [e0, e1, e2, e3]
    refine conv_l [48] (by simp) (by simp) rfl ?_
    simp [e2, Tryd.results29]
  · obtain ⟨N, rfl⟩ : ∃ N : Nat, n = N := ⟨n.toNat, by omega⟩
    simp only [Int.toNat_natCast]
    obtain ⟨R, hR⟩ : ∃ R, R = dec N := ⟨_, rfl⟩
    rw [← hR]
    simp [c0]
    refine aw_loop0 (fun y : Nat × List UInt8 => y.2.length + y.1 ≤ N ∧ (0 < y.1 ∨ y.2 = []) ∧ R = dec y.1 ++ y.2) (fun y => [(0, .p (.int y.1)), (1, .p (.int 10)), (5, .p (.str y.2))]) (fun y => y.1) (N, []) ⟨by simp, .inr rfl, by simp [hR]⟩ (leN_id (by simp)) ?_
    rintro ⟨m, s⟩ ⟨g1, g3, g2⟩
    simp only at g1 g2 g3
    have hsl : 1 + s.length ≤ 9223372036854775807 := by
      rcases g3 with h | rfl
      · omega
      · simp
    have w1 : (m : Int).tmod 10 = ((m % 10 : Nat) : Int) := Int.ofNat_tmod m 10
    have w2 : IntKind.u8.wrap ((m : Int) % 10) = (m : Int) % 10 := wrapU8_id (by omega) (by omega)
    have w3 : IntKind.u8.wrap (48 + (m : Int) % 10) = ((dgc (m % 10)).toNat : Int) := by
      rw [wrapU8_id (by omega) (by omega), digit_nat _ (by omega)]; omega
    have w4 : IntKind.i64.wrap ((m : Int) / 10) = (m : Int) / 10 := wrap64_id (by omega) (by omega)
    have d1 : (m : Int) % 10 < 10 := by omega
    have d2 : m % 10 < 10 := by omega
    simp [w1, w2, w3, w4, d1, d2]
    refine conv_l [dgc (m % 10)] (by simp) (by simp) rfl ?_
    simp [w4]
    by_cases c1 : m < 10
    · have e1 : (m : Int) / 10 = 0 := by omega
      have e2 : m % 10 = m := Nat.mod_eq_of_lt c1
      rw [g2, dec_lt c1]
      simp [e1, e2, hsl, Tryd.results29]
    · have e1 : ((m : Int) / 10 == 0) = false := by simp; omega
      simp [e1]
      refine ⟨hsl, m / 10, dgc (m % 10) :: s, ⟨by simp; omega, .inl (by omega), by rw [g2, dec_ge c1]; simp⟩, by omega, leN_id ?_⟩
      simp
end Go.Av

/-! part Q30 -/
namespace Go.Av
open Go.Proofs

def rightB (s : StV) : Bool :=
  if s.mi < 0 ∨ 1 < s.mi then false else
  if s.st = 0 then tkB s.m && (decide (s.m.length ≤ 32) && (visB s.t && (decide (s.t.length ≤ 8000) && (s.r == []))))
  else (s.m == []) && ((s.t == []) && (decide (100 ≤ s.st) && (decide (s.st ≤ 999) && (rvalB s.r && decide (s.r.length ≤ 200)))))
def verB : List UInt8 := [72, 84, 84, 80, 47, 49, 46]
def printB (s : StV) : List UInt8 :=
  if s.st = 0 then s.m ++ 32 :: (s.t ++ 32 :: (verB ++ (dec s.mi.toNat ++ [13, 10])))
  else verB ++ (dec s.mi.toNat ++ 32 :: (dec s.st.toNat ++ 32 :: (s.r ++ [13, 10])))
/-- a line whose parts are no longer than Go's texts can be -/
def StOk (s : StV) : Prop := s.m.length ≤ 9223372036854775807 ∧ s.t.length ≤ 9223372036854775807 ∧ s.r.length ≤ 9223372036854775807 ∧
  -9223372036854775808 ≤ s.st ∧ s.st ≤ 9223372036854775807 ∧ -9223372036854775808 ≤ s.mi ∧ s.mi ≤ 9223372036854775807
set_option maxHeartbeats 2000000 in
set_option maxRecDepth 100000 in
theorem rright23 (s : StV) (hm : s.m.length ≤ 1000000000) (ht : s.t.length ≤ 1000000000) (hr : s.r.length ≤ 1000000000) : PureC Tryd.prog 23 [stP s] (.bool (rightB s)) := by
  refine pure_of_aw (ys := [_]) [] [] [] mixed Tryd.func23 rfl (by kernel_rfl) (by kernel_rfl) (by simp [Tryd.ntmps23]) rfl ?_
  obtain ⟨m, t, st, r, mi⟩ := s
  simp only at hm ht hr
  simp only [stP]
  generalize hR : rightB ⟨m, t, st, r, mi⟩ = R
  unfold rightB at hR
  simp only at hR
  by_cases c1 : mi < 0
  · rw [if_pos (.inl c1)] at hR
    subst hR
    simp [c1, Tryd.results23]
  by_cases c2 : 1 < mi
  · rw [if_pos (.inr c2)] at hR
    subst hR
    simp [c1, c2, Tryd.results23]
  rw [if_neg (by omega)] at hR
  by_cases c3 : st = 0
  · subst c3
    rw [if_pos rfl] at hR
    simp [c1, c2]
    refine pcall_of (rtoken31 tchar70 m hm) (by simp) ?_
    cases h1 : tkB m with
    | false => rw [h1] at hR; simp at hR; subst hR; simp [Tryd.results23]
    | true =>
    rw [h1] at hR
    simp only [Bool.true_and] at hR
    by_cases h2 : m.length ≤ 32
    case neg =>
      have d2 : ¬ (m.length : Int) ≤ 32 := by omega
      simp [h2] at hR; subst hR
      simp [h2, d2, Tryd.results23]
    have d2 : (m.length : Int) ≤ 32 := by omega
    simp [h2] at hR
    simp [h2, d2]
    refine pcall_of (rvisible58 t ht) (by simp) ?_
    cases h3 : visB t with
    | false => rw [h3] at hR; simp at hR; subst hR; simp [Tryd.results23]
    | true =>
    rw [h3] at hR
    simp only [Bool.true_and] at hR
    by_cases h4 : t.length ≤ 8000
    case neg =>
      have d4 : ¬ (t.length : Int) ≤ 8000 := by omega
      simp [h4] at hR; subst hR
      simp [h4, d4, Tryd.results23]
    have d4 : (t.length : Int) ≤ 8000 := by omega
    simp [h4] at hR
    subst hR
    simp [h4, d4, Tryd.results23]
  · rw [if_neg c3] at hR
    have d3 : (st == 0) = false := by simpa using c3
    simp [c1, c2, c3, d3]
    by_cases h1 : m = []
    case neg =>
      have d1 : (m == []) = false := by simpa using h1
      rw [d1] at hR; simp at hR; subst hR
      simp [h1, d1, show m.isEmpty = false by simpa using h1, Tryd.results23]
    subst h1
    try simp at hR
    by_cases h2 : t = []
    case neg =>
      have d1 : (t == []) = false := by simpa using h2
      have hR' : R = false := by rw [← hR]; simp [h2]
      subst hR'
      simp [h2, d1, show t.isEmpty = false by simpa using h2, Tryd.results23]
    subst h2
    try simp at hR
    by_cases h3 : 100 ≤ st
    case neg =>
      simp [h3] at hR; subst hR
      simp [h3, Tryd.results23]
    simp [h3] at hR
    by_cases h4 : st ≤ 999
    case neg =>
      simp [h4] at hR; subst hR
      simp [h3, h4, Tryd.results23]
    simp [h4] at hR
    simp [h3, h4]
    refine pcall_of (rvalue62 r hr) (by simp) ?_
    cases h5 : rvalB r with
    | false => rw [h5] at hR; simp at hR; subst hR; simp [Tryd.results23]
    | true =>
    rw [h5] at hR
    simp only [Bool.true_and] at hR
    by_cases h6 : r.length ≤ 200
    · have d6 : (r.length : Int) ≤ 200 := by omega
      simp [h6] at hR; subst hR
      simp [h6, d6, Tryd.results23]
    · have d6 : ¬ (r.length : Int) ≤ 200 := by omega
      simp [h6] at hR; subst hR
      simp [h6, d6, Tryd.results23]
theorem dec_len : ∀ (k n : Nat), n < 10 ^ (k + 1) → (dec n).length ≤ k + 1
  | 0, n, h => by rw [dec_lt (by simpa using h)]; simp
  | k + 1, n, h => by
    by_cases c : n < 10
    · rw [dec_lt c]; simp
    · rw [dec_ge c, List.length_append]
      have := dec_len k (n / 10) (by rw [Nat.pow_succ] at h; omega)
      simp; omega
theorem rprint24 (s : StV) (hm : s.m.length ≤ 1000000000) (ht : s.t.length ≤ 1000000000) (hr : s.r.length ≤ 1000000000) (h1 : -9223372036854775808 ≤ s.st) (h2 : s.st ≤ 9223372036854775807) (h3 : -9223372036854775808 ≤ s.mi) (h4 : s.mi ≤ 9223372036854775807) : PureC Tryd.prog 24 [stP s] (.str (printB s)) := by
  refine pure_of_aw (ys := [_]) [] [] [] mixed Tryd.func24 rfl (by kernel_rfl) (by kernel_rfl) (by simp [Tryd.ntmps24]) rfl ?_
  obtain ⟨m, t, st, r, mi⟩ := s
  simp only at hm ht hr h1 h2 h3 h4
  simp only [stP, printB]
  simp
  refine pcall_of (rprint29 mi h3 h4) (by simp) ?_
  have l1 := dec_len 19 mi.toNat (by omega)
  have l2 := dec_len 19 st.toNat (by omega)
  by_cases c : st = 0
  · subst c
    simp [Tryd.results24, verB]
    omega
  · have d3 : (st == 0) = false := by simpa using c
    simp [c, d3]
    refine ⟨by omega, by omega, ?_⟩
    refine call_of (rprint29 st h1 h2) ?_
    simp [Tryd.results24, verB]
    omega
end Go.Av

/-! part Q31 -/
namespace Go.Av
open Go.Proofs

def noLF (l : List UInt8) : Prop := ∀ x ∈ l, x ≠ 10
theorem noLF_all {p : UInt8 → Bool} {l : List UInt8} (h : l.all p = true) (hp : p 10 = false) : noLF l := fun x hx e => by
  have := List.all_eq_true.1 h x hx
  rw [e, hp] at this; cases this
theorem noLF_app {a b : List UInt8} (h1 : noLF a) (h2 : noLF b) : noLF (a ++ b) := fun x hx => by
  rcases List.mem_append.1 hx with h | h
  · exact h1 x h
  · exact h2 x h
theorem noLF_cons {c : UInt8} {b : List UInt8} (h1 : c ≠ 10) (h2 : noLF b) : noLF (c :: b) := fun x hx => by
  rcases List.mem_cons.1 hx with h | h
  · rw [h]; exact h1
  · exact h2 x h
theorem tk_noLF {l : List UInt8} (h : tkB l = true) : noLF l := by
  unfold tkB at h; simp only [Bool.and_eq_true] at h
  exact noLF_all h.2 (by kernel_rfl)
theorem vis_noLF {l : List UInt8} (h : visB l = true) : noLF l := by
  unfold visB at h; simp only [Bool.and_eq_true] at h
  exact noLF_all h.2 (by kernel_rfl)
theorem val_noLF {l : List UInt8} (h : rvalB l = true) : noLF l := by
  unfold rvalB at h; simp only [Bool.and_eq_true] at h
  exact noLF_all h.1 (by kernel_rfl)
theorem dec_noLF (n : Nat) : noLF (dec n) := noLF_all (dec_dig n n (Nat.le_refl _)) (by kernel_rfl)
theorem ver_noLF : noLF verB := by
  intro x hx
  simp only [verB, List.mem_cons, List.not_mem_nil, or_false] at hx
  rcases hx with rfl | rfl | rfl | rfl | rfl | rfl | rfl <;> decide
/-- a right line's parts -/
theorem right_ask {s : StV} (h : rightB s = true) (h0 : s.st = 0) : tkB s.m = true ∧ s.m.length ≤ 32 ∧ visB s.t = true ∧ s.t.length ≤ 8000 ∧ s.r = [] ∧ 0 ≤ s.mi ∧ s.mi ≤ 1 := by
  unfold rightB at h
  split at h
  · cases h
  · try rw [if_pos h0] at h
    simp only [Bool.and_eq_true, decide_eq_true_eq, beq_iff_eq] at h
    exact ⟨h.1, h.2.1, h.2.2.1, h.2.2.2.1, h.2.2.2.2, by omega, by omega⟩
theorem right_ans {s : StV} (h : rightB s = true) (h0 : s.st ≠ 0) : s.m = [] ∧ s.t = [] ∧ 100 ≤ s.st ∧ s.st ≤ 999 ∧ rvalB s.r = true ∧ s.r.length ≤ 200 ∧ 0 ≤ s.mi ∧ s.mi ≤ 1 := by
  unfold rightB at h
  split at h
  · cases h
  · try rw [if_neg h0] at h
    simp only [Bool.and_eq_true, decide_eq_true_eq, beq_iff_eq] at h
    exact ⟨h.1, h.2.1, h.2.2.1, h.2.2.2.1, h.2.2.2.2.1, h.2.2.2.2.2, by omega, by omega⟩
def lineA (s : StV) : List UInt8 := s.m ++ 32 :: (s.t ++ 32 :: (verB ++ dec s.mi.toNat))
def lineR (s : StV) : List UInt8 := verB ++ (dec s.mi.toNat ++ 32 :: (dec s.st.toNat ++ 32 :: s.r))
theorem print_ask {s : StV} (h0 : s.st = 0) : printB s = lineA s ++ [13, 10] := by
  unfold printB lineA; rw [if_pos h0]; simp
theorem print_ans {s : StV} (h0 : s.st ≠ 0) : printB s = lineR s ++ [13, 10] := by
  unfold printB lineR; rw [if_neg h0]; simp
theorem dec_small {n : Nat} (h : n < 10) : (dec n).length = 1 := by rw [dec_lt h]; rfl
theorem dec_three {n : Nat} (h : 100 ≤ n) (h2 : n ≤ 999) : (dec n).length = 3 := by
  rw [dec_ge (by omega), dec_ge (by omega), dec_lt (by omega)]; rfl
theorem lineA_ok {s : StV} (h : rightB s = true) (h0 : s.st = 0) : noLF (lineA s) ∧ (lineA s).length ≤ 8042 := by
  obtain ⟨a1, a2, a3, a4, a5, a6, a7⟩ := right_ask h h0
  refine ⟨?_, ?_⟩
  · exact noLF_app (tk_noLF a1) (noLF_cons (by decide) (noLF_app (vis_noLF a3) (noLF_cons (by decide) (noLF_app ver_noLF (dec_noLF _)))))
  · have := dec_small (n := s.mi.toNat) (by omega)
    simp [lineA, verB, this]; omega
theorem lineR_ok {s : StV} (h : rightB s = true) (h0 : s.st ≠ 0) : noLF (lineR s) ∧ (lineR s).length ≤ 213 := by
  obtain ⟨a1, a2, a3, a4, a5, a6, a7, a8⟩ := right_ans h h0
  refine ⟨?_, ?_⟩
  · exact noLF_app ver_noLF (noLF_app (dec_noLF _) (noLF_cons (by decide) (noLF_app (dec_noLF _) (noLF_cons (by decide) (val_noLF a5)))))
  · have := dec_small (n := s.mi.toNat) (by omega)
    have := dec_three (n := s.st.toNat) (by omega) (by omega)
    simp [lineR, verB, *]; omega
theorem line_part {L : List UInt8} (hL : noLF L) {k most : Nat} (hk : k < (L ++ [13, 10]).length) (hm : k ≤ most) : lineB ((L ++ [13, 10]).take k) most = ([], 0, 11) := by
  have e : (L ++ [13, 10]) = (L ++ [13]) ++ [10] := by simp
  have hn : noLF ((L ++ [13, 10]).take k) := by
    rw [e, List.take_append_of_le_length (by simp at hk ⊢; omega)]
    intro x hx
    exact noLF_app hL (noLF_cons (by decide) (fun _ h => by cases h)) x (List.mem_of_mem_take hx)
  have hl : ((L ++ [13, 10]).take k).length ≤ most := by rw [List.length_take]; omega
  generalize (L ++ [13, 10]).take k = p at *
  unfold lineB
  simp only
  rw [ixB_none fun x hx => hn x (List.mem_of_mem_take hx), if_pos (by omega), if_pos hl]
theorem cut_req {s : StV} (h : rightB s = true) (h0 : s.st = 0) {k : Nat} (hk : k < (printB s).length) : reqB ((printB s).take k) = (st0, 0, 11) := by
  have hL := lineA_ok h h0
  rw [print_ask h0] at hk ⊢
  have := line_part hL.1 (most := 8200) hk (by simp at hk; omega)
  unfold reqB
  simp only [this]
  rw [if_neg (by omega)]
theorem cut_res {s : StV} (h : rightB s = true) (h0 : s.st ≠ 0) {k : Nat} (hk : k < (printB s).length) : resB ((printB s).take k) = (st0, 0, 11) := by
  have hL := lineR_ok h h0
  rw [print_ans h0] at hk ⊢
  have := line_part hL.1 (most := 300) hk (by simp at hk; omega)
  unfold resB
  simp only [this]
  rw [if_neg (by omega)]
theorem print_len {s : StV} (h : rightB s = true) : 2 ≤ (printB s).length ∧ (printB s).length ≤ 9000 := by
  by_cases h0 : s.st = 0
  · have := lineA_ok h h0
    rw [print_ask h0]; simp; omega
  · have := lineR_ok h h0
    rw [print_ans h0]; simp; omega
end Go.Av

/-! part Q32 -/
namespace Go.Av
open Go.Proofs

/-- a place in a list of n, out of whatever number -/
def modK (c : Int) (n : Nat) : Nat := ((c.tmod n + n).tmod n).toNat
theorem modK_lt (c : Int) {n : Nat} (h : 0 < n) : modK c n < n := by
  unfold modK
  have h1 := Int.tmod_lt_of_pos c (b := (n : Int)) (by omega)
  have h2 := Int.lt_tmod_of_pos c (b := (n : Int)) (by omega)
  have h3 := Int.tmod_lt_of_pos (c.tmod n + n) (b := (n : Int)) (by omega)
  omega
theorem modK_eq (c : Int) {n : Nat} (h : 0 < n) : (c.tmod n + n).tmod n = (modK c n : Int) := by
  unfold modK
  have h2 := Int.lt_tmod_of_pos c (b := (n : Int)) (by omega)
  have h3 := Int.tmod_nonneg (a := c.tmod n + n) (n : Int) (by omega)
  omega
theorem modK_wrap (c : Int) {n : Nat} (h : 0 < n) (hn : n ≤ 1000000000) : IntKind.i64.wrap (c.tmod n + n) = c.tmod n + n := by
  have h1 := Int.tmod_lt_of_pos c (b := (n : Int)) (by omega)
  have h2 := Int.lt_tmod_of_pos c (b := (n : Int)) (by omega)
  exact wrap64_id (by omega) (by omega)
set_option maxHeartbeats 2000000 in
set_option maxRecDepth 100000 in
theorem law4 (s : StV) (hs : StOk s) (cut : Int) : PureC Tryd.prog 4 [stP s, .int cut] (.bool true) := by
  refine pure_of_aw (ys := [_]) [] [] [] mixed Tryd.func4 rfl (by kernel_rfl) (by kernel_rfl) (by simp [Tryd.ntmps4]) rfl ?_
  obtain ⟨q1, q2, q3, q4, q5, q6, q7⟩ := hs
  have hright := rright23 s
  have hprint := rprint24 s
  have hlen := @print_len s
  have hreq := @cut_req s
  have hres := @cut_res s
  generalize hP : printB s = P at *
  generalize hR : rightB s = R at *
  obtain ⟨m, t, st, r, mi⟩ := s
  simp only at q1 q2 q3 q4 q5 q6 q7 hright hprint hreq hres
  simp only [stP] at *
  simp
  refine pcall_of awake18 (by simp) ?_
  by_cases c1 : m.length ≤ 200
  case neg =>
    have d : (200 : Int) < (m.length : Int) := by omega
    simp [d, show 200 < m.length by omega]
    refine pcall_of awake18 (by simp) ?_
    simp [Tryd.results4]
  have d1 : ¬ (200 : Int) < (m.length : Int) := by omega
  by_cases c2 : t.length ≤ 9000
  case neg =>
    have d : (9000 : Int) < (t.length : Int) := by omega
    simp [d1, show ¬ 200 < m.length by omega, d, show 9000 < t.length by omega]
    refine pcall_of awake18 (by simp) ?_
    simp [Tryd.results4]
  have d2 : ¬ (9000 : Int) < (t.length : Int) := by omega
  by_cases c3 : r.length ≤ 500
  case neg =>
    have d : (500 : Int) < (r.length : Int) := by omega
    simp [d1, show ¬ 200 < m.length by omega, d2, show ¬ 9000 < t.length by omega, d, show 500 < r.length by omega]
    refine pcall_of awake18 (by simp) ?_
    simp [Tryd.results4]
  have d3 : ¬ (500 : Int) < (r.length : Int) := by omega
  simp [d1, show ¬ 200 < m.length by omega, d2, show ¬ 9000 < t.length by omega, d3, show ¬ 500 < r.length by omega]
  refine pcall_of (hright (by omega) (by omega) (by omega)) (by simp) ?_
  cases R with
  | false =>
    simp
    refine pcall_of awake18 (by simp) ?_
    simp [Tryd.results4]
  | true =>
  have hl := hlen rfl
  have hpos : 0 < P.length := by omega
  simp
  refine pcall_of (hprint (by omega) (by omega) (by omega) q4 q5 q6 q7) (by simp) ?_
  obtain ⟨k, hkk⟩ : ∃ k, k = modK cut P.length := ⟨_, rfl⟩
  have e1 := modK_eq cut hpos
  have e2 := modK_wrap cut hpos (by omega)
  have hk := modK_lt cut hpos
  rw [← hkk] at e1 hk
  have hk2 : k ≤ P.length := by omega
  have hne : ¬ P = [] := by intro h; rw [h] at hpos; simp at hpos
  have z0 : ((P.length : Int) == 0) = false := by simp; omega
  have htl : (P.take k).length ≤ 1000000 := by rw [List.length_take]; omega
  simp [e1, e2, z0, hk2]
  refine ⟨hne, by omega, ?_⟩
  refine pcall_of (request19 (P.take k) htl) (by simp) ?_
  by_cases c4 : st = 0
  · rw [hreq rfl c4 hk]
    subst c4
    simp [Tryd.results4, st0]
  · have d4 : (st != 0) = true := by simpa using c4
    generalize reqB (P.take k) = y
    simp [d4, c4, hk2]
    refine ⟨by omega, ?_⟩
    refine pcall_of (response21 (P.take k) htl) (by simp) ?_
    rw [hres rfl c4 hk]
    simp [Tryd.results4, st0]
end Go.Av

/-! part Q33 -/
namespace Go.Av
open Go.Proofs
theorem cellsT3 : Tryd.prog.cellsOf 3 = 1 := by kernel_rfl
theorem cellsT9 : Tryd.prog.cellsOf 9 = 1 := by kernel_rfl
theorem cellsT25 : Tryd.prog.cellsOf 25 = 5 := by kernel_rfl
theorem bounds_i64 {n : Int} (h : (Lit.int .i64 n).wf = true) : -9223372036854775808 ≤ n ∧ n ≤ 9223372036854775807 := by
  have a : IntKind.i64.min = -9223372036854775808 := rfl
  have b : IntKind.i64.max = 9223372036854775807 := rfl
  simp only [Lit.wf, Bool.and_eq_true, decide_eq_true_eq, a, b] at h
  exact h
def intS (x : PC) : Prop := ∃ n : Int, x = .int n ∧ -9223372036854775808 ≤ n ∧ n ≤ 9223372036854775807
def startS (x : PC) : Prop := ∃ s : StV, x = stP s ∧ StOk s
theorem rd3 : RdV Tryd.prog 3 intS :=
  rv_one (by rw [Tryd.underlying3]; simp) (by rw [Tryd.underlying3]; simp) ((rd_int Tryd.underlying3).c.mono fun x ⟨n, h, hw⟩ => ⟨n, h, bounds_i64 hw⟩) (by rintro x ⟨s, rfl, _⟩ b xs h; cases h)
theorem rd25 : RdV Tryd.prog 25 startS := by
  refine rv_struct Tryd.underlying25 ((rd_struct (Ss := [_, _, _, _, _]) Tryd.underlying25 (by rw [cellsT25]; simp [totF, cellsT3, cellsT9])
    ⟨rfl, (rd_string Tryd.underlying9).c, (by simp [cellsT9]), (rd_string Tryd.underlying9).c, (by simp [cellsT9]), (rd_int Tryd.underlying3).c, (by simp [cellsT9, cellsT3]), (rd_string Tryd.underlying9).c, (by simp [cellsT9, cellsT3]), (rd_int Tryd.underlying3).c, trivial⟩).mono ?_) ?_
  · rintro x ⟨ys, rfl, h⟩
    match ys, h with
    | [a, b, c, d, e], ⟨⟨m, ha, h1⟩, ⟨t, hb, h2⟩, ⟨st, hc, h3⟩, ⟨r, hd, h4⟩, ⟨mi, he, h5⟩, _⟩ =>
      subst ha; subst hb; subst hc; subst hd; subst he
      have b3 := bounds_i64 h3
      have b5 := bounds_i64 h5
      simp only [maxLen] at h1 h2 h4
      exact ⟨⟨m, t, st, r, mi⟩, rfl, by simpa using h1, by simpa using h2, by simpa using h4, b3.1, b3.2, b5.1, b5.2⟩
    | [], h => exact h.elim
    | [_], h => exact h.2.elim
    | [_, _], h => exact h.2.2.elim
    | [_, _, _], h => exact h.2.2.2.elim
    | [_, _, _, _], h => exact h.2.2.2.2.elim
    | _ :: _ :: _ :: _ :: _ :: _ :: _, h => exact h.2.2.2.2.2.elim
  · rintro x ⟨s, rfl, _⟩; exact ⟨_, rfl⟩
theorem law4n {x y : PC} (hx : startS x) (hy : intS y) : PureC Tryd.prog 4 [x, y] (.bool true) := by
  obtain ⟨s, rfl, h⟩ := hx
  obtain ⟨n, rfl, _, _⟩ := hy
  exact law4 s h n
end Go.Av
