/- Names, tokens and quoted texts are one piece each, and what they are read as; digits are read again; ControlNumbers computes true. -/
import Derived.Test.YtpffiikopcpgfaaDoorDk
set_option linter.all false
/-! part Q66 -/
namespace Go.Av
open Go.Proofs

theorem tok_plain {c : UInt8} (h : tokB c = true) : c ≠ 34 ∧ c ≠ 92 ∧ c ≠ 44 ∧ c ≠ 61 ∧ blO c = false ∧ plnB c = true := by
  have := all256 (p := fun c => !(tokB c) || (!(c == 34) && !(c == 92) && !(c == 44) && !(c == 61) && !(blO c) && plnB c)) (by kernel_rfl) c
  rw [h] at this
  simp only [Bool.not_true, Bool.false_or, Bool.and_eq_true, Bool.not_eq_true', beq_eq_false_iff_ne] at this
  obtain ⟨⟨⟨⟨⟨a, b⟩, c⟩, d⟩, e⟩, f⟩ := this
  exact ⟨a, b, c, d, e, f⟩
theorem comB_app (ins : Bool) : ∀ (l r : List UInt8), (∀ c ∈ l, c ≠ 34 ∧ c ≠ 92 ∧ (c ≠ 44 ∨ ins = true)) → comB ins (l ++ r) = l.length + comB ins r
  | [], r, _ => by simp
  | c :: l, r, h => by
    obtain ⟨h1, h2, h3⟩ := h c (by simp)
    rw [List.cons_append, comB_cons, if_neg h1, if_neg (by simp [h2]), if_neg (by rintro ⟨a, b⟩; rcases h3 with h3 | h3; exact h3 a; rw [b] at h3; cases h3), comB_app ins l r (fun c hc => h c (by simp [hc])), List.length_cons]
    omega
theorem comB_qt (ins : Bool) (r : List UInt8) : comB ins (34 :: r) = comB (!ins) r + 1 := by rw [comB_cons, if_pos rfl]
theorem comB_cm (r : List UInt8) : comB false (44 :: r) = 0 := by rw [comB_cons, if_neg (by decide), if_neg (by simp), if_pos ⟨rfl, rfl⟩]
theorem comB_nil (ins : Bool) : comB ins [] = 0 := by unfold comB; rfl
/-- a text with no comma outside quotation marks is one piece -/
theorem spl1_one {l : List UInt8} (h : comB false l = l.length) : spl1 l = pieceB l := by
  by_cases e : l = []
  · subst e; simp [spl1_nil, pieceB_nil]
  · rw [spl1_eq e, h, List.take_length, List.drop_of_length_le (by omega), spl1_nil, List.append_nil]
theorem spl1_cm {l r : List UInt8} (h : comB false (l ++ 44 :: r) = l.length) : spl1 (l ++ 44 :: r) = pieceB l ++ spl1 r := by
  rw [spl1_eq (by simp), h, List.take_left, ← List.drop_drop, List.drop_left]
  rfl
theorem trimB_id {a : UInt8} {m : List UInt8} (h1 : blO a = false) (h2 : blO ((a :: m).getLastD 0) = false) : trimB (a :: m) = a :: m := by
  have := trim_iff a m
  rw [h1, h2] at this
  simpa using this
theorem pieceB_id {l : List UInt8} (h : l ≠ []) (h1 : ∀ c, l.head? = some c → blO c = false) (h2 : ∀ c, l.getLast? = some c → blO c = false) : pieceB l = [l] := by
  cases l with
  | nil => exact (h rfl).elim
  | cons a m =>
    unfold pieceB
    have e : trimB (a :: m) = a :: m := by
      refine trimB_id (h1 a rfl) ?_
      have : (a :: m).getLast? = some ((a :: m).getLastD 0) := by
        rw [List.getLast?_eq_some_getLast (by simp)]
        simp only [List.getLastD_eq_getLast?]
        rw [List.getLast?_eq_some_getLast (List.cons_ne_nil a m)]; rfl
      exact h2 _ this
    rw [e, if_neg (by simp)]
theorem cutB_at {n a : List UInt8} (h : ∀ c ∈ n, c ≠ 61) : cutB (n ++ 61 :: a) 61 = (n, a, true) := by
  have e : ixB (n ++ 61 :: a) 61 = n.length := ixB_eq (by simp) (by rw [List.take_left]; exact h) (by simp)
  unfold cutB
  rw [e, if_neg (by omega)]
  simp [List.drop_append]
theorem cutB_no {n : List UInt8} (h : ∀ c ∈ n, c ≠ 61) : cutB n 61 = (n, [], false) := by
  unfold cutB
  rw [ixB_none h, if_pos (by omega)]
theorem tk_all {l : List UInt8} (h : tkB l = true) : l ≠ [] ∧ ∀ c ∈ l, tokB c = true := by
  unfold tkB at h
  simp only [Bool.and_eq_true, decide_eq_true_eq, List.all_eq_true] at h
  exact h
theorem tk_ne {l : List UInt8} (h : tkB l = true) (c : UInt8) (hc : c ∈ l) : c ≠ 61 := (tok_plain ((tk_all h).2 c hc)).2.2.2.1
theorem readB_name {n : List UInt8} (h : tkB n = true) : readB n = (lowB n, [], false, true) := by
  unfold readB
  rw [cutB_no (tk_ne h)]
  simp [h]
theorem readB_arg {n a : List UInt8} (h : tkB n = true) (ha : tkB a = true) : readB (n ++ 61 :: a) = (lowB n, a, true, true) := by
  unfold readB
  rw [cutB_at (tk_ne h)]
  simp [h, ha]
/-- a quoted text that holds neither quotation marks nor backslashes -/
theorem unqG_plain : ∀ (a b : List UInt8) (k : Nat), (∀ c ∈ a, c ≠ 34 ∧ c ≠ 92 ∧ plnB c = true) → unqG b k (a ++ [34]) = (b ++ a, ((k + a.length + 1 : Nat) : Int), 0)
  | [], b, k, _ => by simp [unqG_one]
  | c :: a, b, k, h => by
    obtain ⟨h1, h2, h3⟩ := h c (by simp)
    rw [List.cons_append, unqG_cons, if_neg h1, if_neg h2, if_pos h3, unqG_plain a _ _ (fun c hc => h c (by simp [hc]))]
    simp
    omega
theorem readB_quo {n a : List UInt8} (h : tkB n = true) (ha : ∀ c ∈ a, c ≠ 34 ∧ c ≠ 92 ∧ plnB c = true) : readB (n ++ 61 :: 34 :: (a ++ [34])) = (lowB n, a, true, true) := by
  unfold readB
  rw [cutB_at (tk_ne h)]
  have e : tkB (34 :: (a ++ [34])) = false := by
    unfold tkB
    simp [show tokB 34 = false by kernel_rfl]
  have e2 : unqB (34 :: (a ++ [34])) = (a, ((a.length + 2 : Nat) : Int), 0) := by
    simp only [unqB, if_true]
    rw [unqG_plain a [] 1 ha]
    simp; omega
  simp [h, e, e2]
  omega
/-- one piece each: a name; a name and a token; a name and a quoted token -/
theorem spl_name {n : List UInt8} (h : tkB n = true) : spl1 n = [n] := by
  obtain ⟨h0, h1⟩ := tk_all h
  have e : comB false n = n.length := by
    have := comB_app false n [] fun c hc => by have := tok_plain (h1 c hc); exact ⟨this.1, this.2.1, .inl this.2.2.1⟩
    rw [List.append_nil, comB_nil, Nat.add_zero] at this
    exact this
  rw [spl1_one e]
  exact pieceB_id h0 (fun c hc => (tok_plain (h1 c (List.mem_of_head? hc))).2.2.2.2.1) (fun c hc => (tok_plain (h1 c (List.mem_of_getLast? hc))).2.2.2.2.1)
theorem spl_arg {n a : List UInt8} (h : tkB n = true) (ha : tkB a = true) : spl1 (n ++ 61 :: a) = [n ++ 61 :: a] := by
  obtain ⟨h0, h1⟩ := tk_all h
  obtain ⟨g0, g1⟩ := tk_all ha
  have e : comB false (n ++ 61 :: a) = (n ++ 61 :: a).length := by
    have := comB_app false (n ++ 61 :: a) [] fun c hc => by
      rcases List.mem_append.1 hc with hc | hc
      · have := tok_plain (h1 c hc); exact ⟨this.1, this.2.1, .inl this.2.2.1⟩
      · rcases List.mem_cons.1 hc with rfl | hc
        · exact ⟨by decide, by decide, .inl (by decide)⟩
        · have := tok_plain (g1 c hc); exact ⟨this.1, this.2.1, .inl this.2.2.1⟩
    rw [List.append_nil, comB_nil, Nat.add_zero] at this
    exact this
  rw [spl1_one e]
  refine pieceB_id (by simp) (fun c hc => ?_) (fun c hc => ?_)
  · cases n with
    | nil => exact (h0 rfl).elim
    | cons x n => simp at hc; subst hc; exact (tok_plain (h1 x (by simp))).2.2.2.2.1
  · have : c ∈ a := by
      rw [List.getLast?_append, List.getLast?_cons] at hc
      cases a with
      | nil => exact (g0 rfl).elim
      | cons y a =>
        simp at hc
        rw [← hc]
        exact List.getLast_mem (by simp)
    exact (tok_plain (g1 c this)).2.2.2.2.1
theorem spl_quo {n a : List UInt8} (h : tkB n = true) (ha : ∀ c ∈ a, c ≠ 34 ∧ c ≠ 92) : spl1 (n ++ 61 :: 34 :: (a ++ [34])) = [n ++ 61 :: 34 :: (a ++ [34])] := by
  obtain ⟨h0, h1⟩ := tk_all h
  have e : comB false (n ++ 61 :: 34 :: (a ++ [34])) = (n ++ 61 :: 34 :: (a ++ [34])).length := by
    rw [comB_app false n _ fun c hc => by have := tok_plain (h1 c hc); exact ⟨this.1, this.2.1, .inl this.2.2.1⟩]
    have := comB_app false [61] (34 :: (a ++ [34])) fun c hc => by simp at hc; subst hc; exact ⟨by decide, by decide, .inl (by decide)⟩
    rw [List.singleton_append] at this
    rw [this, comB_qt, Bool.not_false, comB_app _ a _ fun c hc => ⟨(ha c hc).1, (ha c hc).2, .inr rfl⟩, comB_qt, comB_nil]
    simp; omega
  rw [spl1_one e]
  refine pieceB_id (by simp) (fun c hc => ?_) (fun c hc => ?_)
  · cases n with
    | nil => exact (h0 rfl).elim
    | cons x n => simp at hc; subst hc; exact (tok_plain (h1 x (by simp))).2.2.2.2.1
  · have e : n ++ 61 :: 34 :: (a ++ [34]) = (n ++ 61 :: 34 :: a) ++ [34] := by simp
    rw [e, List.getLast?_append] at hc
    simp at hc
    subst hc
    rfl
end Go.Av

/-! part Q67 -/
namespace Go.Av
open Go.Proofs

theorem numS_dgc {most m d : Nat} (hd : d < 10) (hm : 9 ≤ most) : numS most (m, false) (dgc d) = if m * 10 + d ≤ most then (m * 10 + d, false) else (m, true) := by
  unfold numS
  rw [digit_nat d hd]
  simp only [Bool.false_eq_true, false_or, show 48 + d - 48 = d by omega]
  by_cases h : m * 10 + d ≤ most
  · rw [if_pos h, if_neg (by omega)]
  · rw [if_neg h, if_pos (by omega)]
theorem numF_app {most : Nat} (l : List UInt8) (c : UInt8) : numF most (l ++ [c]) = numS most (numF most l) c := by
  unfold numF; rw [List.foldl_append]; rfl
def zer (z : Nat) : List UInt8 := List.replicate z 48
theorem numF_zer {most : Nat} (z : Nat) : numF most (zer z) = (0, false) := by
  induction z with
  | zero => rfl
  | succ z ih =>
    unfold zer at *
    rw [List.replicate_succ', numF_app, ih]
    unfold numS
    simp
theorem numF_dec {most : Nat} (hm : 9 ≤ most) (z : Nat) : ∀ (f n : Nat), n ≤ f → (n ≤ most → numF most (zer z ++ dec n) = (n, false)) ∧ (most < n → (numF most (zer z ++ dec n)).2 = true)
  | f, n, h => by
    by_cases c : n < 10
    · rw [dec_lt c, numF_app, numF_zer, numS_dgc c hm]
      refine ⟨fun hn => by rw [if_pos (by omega)]; simp, fun hn => by omega⟩
    · cases f with
      | zero => omega
      | succ f =>
        have ih := numF_dec hm z f (n / 10) (by omega)
        rw [dec_ge c, ← List.append_assoc, numF_app]
        by_cases c2 : n / 10 ≤ most
        · rw [ih.1 c2, numS_dgc (by omega) hm]
          refine ⟨fun hn => by rw [if_pos (by omega)]; simp; omega, fun hn => by rw [if_neg (by omega)]⟩
        · have e := ih.2 (by omega)
          refine ⟨fun hn => by omega, fun _ => ?_⟩
          unfold numS
          rw [if_pos (.inl e)]
theorem zer_dig (z n : Nat) : (zer z ++ dec n).all dig = true := by
  rw [List.all_append, dec_dig n n (Nat.le_refl _), Bool.and_true]
  unfold zer; rw [List.all_replicate]
  simp [show dig 48 = true by rfl]
theorem numB_dec {most : Nat} (hm : 9 ≤ most) (z n : Nat) : numB most (zer z ++ dec n) = if n ≤ most then ((n : Int), 0) else (0, 12) := by
  unfold numB
  rw [if_neg (by rintro (h | h); exact dec_pos n (by simpa using (List.append_eq_nil_iff.1 h).2); rw [zer_dig] at h; cases h)]
  have := numF_dec hm z n n (Nat.le_refl _)
  by_cases c : n ≤ most
  · rw [this.1 c, if_pos c]; rfl
  · rw [this.2 (by omega), if_pos rfl, if_neg c]
theorem numD_dec (z n : Nat) (wo : Int) : numD (zer z ++ dec n) true wo = if (n : Int) ≤ 2147483647 then (n : Int) else 2147483647 := by
  unfold numD
  rw [if_neg (by simp), numB_dec (by decide)]
  have : MD = 2147483647 := rfl
  by_cases c : n ≤ MD
  · rw [if_pos c, if_neg (by simp), if_pos (by omega)]
  · rw [if_neg c, if_pos rfl, if_neg (by omega)]
theorem dig_tok {c : UInt8} (h : dig c = true) : tokB c = true ∧ c ≠ 34 ∧ c ≠ 92 ∧ plnB c = true := by
  have := all256 (p := fun c => !(dig c) || (tokB c && !(c == 34) && !(c == 92) && plnB c)) (by kernel_rfl) c
  rw [h] at this
  simp only [Bool.not_true, Bool.false_or, Bool.and_eq_true, Bool.not_eq_true', beq_eq_false_iff_ne] at this
  exact ⟨this.1.1.1, this.1.1.2, this.1.2, this.2⟩
theorem zer_all (z n : Nat) : ∀ c ∈ zer z ++ dec n, tokB c = true ∧ c ≠ 34 ∧ c ≠ 92 ∧ plnB c = true := fun c hc => dig_tok (List.all_eq_true.1 (zer_dig z n) c hc)
theorem zer_tk (z n : Nat) : tkB (zer z ++ dec n) = true := by
  unfold tkB
  simp only [Bool.and_eq_true, decide_eq_true_eq, List.all_eq_true]
  exact ⟨fun h => dec_pos n (List.append_eq_nil_iff.1 h).2, fun c hc => (zer_all z n c hc).1⟩
theorem ctl0_eq : ctl0 = ([false, false, false, false, false, false, false], [-1, -1, -1, -1]) := rfl
theorem parse_one {v n a : List UInt8} {has : Bool} (h1 : spl1 v = [v]) (h2 : readB v = (n, a, has, true)) : parseB [v] = stepN n (numD a has (if n = nm9 then 2147483647 else 0)) ctl0 := by
  unfold parseB splitB
  simp only [List.flatMap_cons, List.flatMap_nil, List.append_nil, h1, List.foldl_cons, List.foldl_nil]
  rw [stepC_eq, h2]
  rfl
theorem parse_max (z n : Nat) : parseB [nm7 ++ 61 :: (zer z ++ dec n)] = ([false, false, false, false, false, false, false], [if (n : Int) ≤ 2147483647 then (n : Int) else 2147483647, -1, -1, -1]) := by
  rw [parse_one (spl_arg (by rfl) (zer_tk z n)) (readB_arg (by rfl) (zer_tk z n)), numD_dec, ctl0_eq, stepN_eq]
  rfl
theorem parse_smax (z n : Nat) : parseB [nm8 ++ 61 :: 34 :: ((zer z ++ dec n) ++ [34])] = ([false, false, false, false, false, false, false], [-1, if (n : Int) ≤ 2147483647 then (n : Int) else 2147483647, -1, -1]) := by
  have hz := zer_all z n
  rw [parse_one (spl_quo (by rfl) (fun c hc => ⟨(hz c hc).2.1, (hz c hc).2.2.1⟩)) (readB_quo (by rfl) (fun c hc => (hz c hc).2)), numD_dec, ctl0_eq, stepN_eq]
  rfl
theorem parse_stale : parseB [nm9] = ([false, false, false, false, false, false, false], [-1, -1, 2147483647, -1]) := by kernel_rfl
theorem parse_fresh : parseB [nm10] = ([false, false, false, false, false, false, false], [-1, -1, -1, 0]) := by kernel_rfl
theorem parse_junk {j : List UInt8} (h : tkB j = true) (h10 : (numB MD j).2 = 10) : parseB [nm10 ++ 61 :: j] = ([false, false, false, false, false, false, false], [-1, -1, -1, 0]) := by
  have e : numD j true 0 = 0 := by
    unfold numD
    rw [if_neg (by simp), if_neg (by rw [h10]; decide)]
    unfold numB at h10 ⊢
    split
    · rfl
    · rename_i hc; rw [if_neg hc] at h10; split at h10 <;> simp at h10
  rw [parse_one (spl_arg (by rfl) h) (readB_arg (by rfl) h), show lowB nm10 = nm10 by rfl, if_neg (by decide), e, ctl0_eq, stepN_eq]
  rfl
end Go.Av

/-! part Q68 -/
namespace Go.Av
open Go.Proofs

set_option maxHeartbeats 4000000 in
set_option maxRecDepth 100000 in
theorem law7 (n k : Int) (hn1 : -9223372036854775808 ≤ n) (hn2 : n ≤ 9223372036854775807) (j : List UInt8) (hj : j.length ≤ 9223372036854775807) : PureC Tryd.prog 7 [.int n, .int k, .str j] (.bool true) := by
  refine pure_of_aw (ys := [_]) [] [] [] mixed Tryd.func7 rfl (by kernel_rfl) (by kernel_rfl) (by simp [Tryd.ntmps7]) rfl ?_
  simp
  refine pcall_of awake25 rfl ?_
  by_cases c : j.length ≤ 100
  case neg =>
    have d : (100 : Int) < (j.length : Int) := by omega
    simp [d, show 100 < j.length by omega]
    refine pcall_of awake25 rfl ?_
    simp [Tryd.results7]
  have d : ¬ (100 : Int) < (j.length : Int) := by omega
  simp [d, show ¬ 100 < j.length by omega]
  obtain ⟨Z, hZ⟩ : ∃ Z : Nat, (Z : Int) = (k.tmod 20 + 20).tmod 20 := ⟨((k.tmod 20 + 20).tmod 20).toNat, by
    have h1 := Int.tmod_lt_of_pos k (show (0 : Int) < 20 by decide)
    have h2 := Int.lt_tmod_of_pos k (show (0 : Int) < 20 by decide)
    have := Int.tmod_nonneg (a := k.tmod 20 + 20) 20 (by omega)
    omega⟩
  have hZ2 : Z < 20 := by
    have := Int.tmod_lt_of_pos (k.tmod 20 + 20) (show (0 : Int) < 20 by decide)
    omega
  have b1 := Int.tmod_lt_of_pos k (show (0 : Int) < 20 by decide)
  have b2 := Int.lt_tmod_of_pos k (show (0 : Int) < 20 by decide)
  have w1 : IntKind.i64.wrap (k.tmod 20) = k.tmod 20 := wrap64_id (by omega) (by omega)
  have w2 : IntKind.i64.wrap (k.tmod 20 + 20) = k.tmod 20 + 20 := wrap64_id (by omega) (by omega)
  have w3 : IntKind.i64.wrap (Z : Int) = Z := wrap64_id (by omega) (by omega)
  refine aw_loop0 (fun i : Nat => i ≤ Z) (fun i => [(0, .p (.int n)), (1, .p (.int k)), (2, .p (.str j)), (7, .p (.str (zer i))), (8, .p (.int i))]) (fun i => Z - i) 0 (by simp) (leN_id (by simp [zer])) ?_
  intro i hi
  by_cases ci : i < Z
  · have l1 : (zer i).length + 1 ≤ 9223372036854775807 := by simp [zer]; omega
    have e1 : zer i ++ [48] = zer (i + 1) := by unfold zer; rw [List.replicate_succ']
    have d1 : (i : Int) < (k.tmod 20 + 20).tmod 20 := by omega
    simp [w1, w2, ← hZ, w3, ci, l1, e1]
    refine ⟨i + 1, by omega, by omega, leN_id ?_⟩
    simp [wrap64_id (n := (i : Int) + 1) (by omega) (by omega)]
  obtain rfl : i = Z := by omega
  simp [w1, w2, ← hZ, w3]
  refine pcall_of (rprint29 n hn1 hn2) (by simp) ?_
  obtain ⟨N, hN⟩ : ∃ N, N = n.toNat := ⟨_, rfl⟩
  rw [← hN]
  have hdl := dec_len 18 N (by omega)
  have hzl : (zer i).length = i := by simp [zer]
  have hA := parse26 [nm7 ++ 61 :: (zer i ++ dec N)] (by simp) (by simp [totB, nm7, hzl]; omega) (by simp [nm7, hzl]; omega)
  have hB := parse26 [nm8 ++ 61 :: 34 :: ((zer i ++ dec N) ++ [34])] (by simp) (by simp [totB, nm8, hzl]; omega) (by simp [nm8, hzl]; omega)
  have hC := parse26 [nm9] (by simp) (by decide) (by decide)
  have hD := parse26 [nm10] (by simp) (by decide) (by decide)
  have hE := parse26 [nm10 ++ 61 :: j] (by simp) (by simp [totB, nm10]; omega) (by simp [nm10]; omega)
  rw [parse_max] at hA
  rw [parse_smax] at hB
  rw [parse_stale] at hC
  rw [parse_fresh] at hD
  simp only [ctlL, List.map_cons, List.map_nil, List.cons_append, List.nil_append, nm7, nm8, nm9, nm10] at hA hB hC hD
  obtain ⟨W, hW⟩ : ∃ W : Int, W = if (N : Int) ≤ 2147483647 then (N : Int) else 2147483647 := ⟨_, rfl⟩
  rw [← hW] at hA hB
  have hDl : (zer i ++ dec N).length ≤ 40 := by simp [hzl]; omega
  have hlen : (zer i).length + (dec N).length ≤ 9223372036854775807 := by omega
  have hif : (if 2147483647 < (if n < 0 then 0 else n) then 2147483647 else if n < 0 then 0 else n) = W := by
    rw [hW, hN]
    by_cases c0 : n < 0
    · rw [if_pos c0, if_neg (by omega), if_pos (by omega)]; omega
    · rw [if_neg c0]
      by_cases c1 : 2147483647 < n
      · rw [if_pos c1, if_neg (by omega)]
      · rw [if_neg c1, if_pos (by omega)]; omega
  have hl2 : 8 + ((zer i).length + (dec N).length) ≤ 9223372036854775807 := by omega
  simp [hlen, hif, hl2]
  have hDe : (zer i).length + (dec N).length = (zer i ++ dec N).length := by simp
  generalize zer i ++ dec N = D at *
  refine pcall_of hA rfl ?_
  simp
  refine ⟨by omega, by omega, ?_⟩
  refine pcall_of hB rfl ?_
  simp
  refine pcall_of hC rfl ?_
  simp
  refine pcall_of hD rfl ?_
  simp
  refine pcall_of (rnumber30 j MD (by omega) (by decide) (by decide)) (by simp [MD]) ?_
  simp
  refine ⟨by omega, ?_⟩
  refine pcall_of hE rfl ?_
  have hP := parse_junk (j := j)
  obtain ⟨b0, b1, b2, b3, b4, b5, b6, i0, i1, i2, i3, hR⟩ := ctl_ex (parseB_len [nm10 ++ 61 :: j]).1 (parseB_len [nm10 ++ 61 :: j]).2
  rw [hR] at hP ⊢
  clear hE hA hB
  have htk := rtoken31 tchar70 j (by omega)
  generalize numB MD j = q at *
  obtain ⟨v, e⟩ := q
  simp only at hP ⊢
  simp [ctlL]
  refine pcall_of htk (by simp) ?_
  cases ht : tkB j with
  | false => simp [Tryd.results7]
  | true =>
  simp
  by_cases he : e = 10
  case neg =>
    have d : (e != 10) = true := by simpa using he
    simp [he, d, Tryd.results7]
  subst he
  have h3 := hP ht rfl
  simp at h3
  obtain ⟨_, _, _, _, rfl⟩ := h3
  simp [Tryd.results7]
def strS (x : PC) : Prop := ∃ s : List UInt8, x = .str s ∧ s.length ≤ 9223372036854775807
theorem rd9 : RdV Tryd.prog 9 strS :=
  rv_one (by rw [Tryd.underlying9]; simp) (by rw [Tryd.underlying9]; simp) ((rd_string Tryd.underlying9).c.mono fun x ⟨s, h, hl⟩ => ⟨s, h, by simp [maxLen] at hl; omega⟩) (by rintro x ⟨s, rfl, _⟩ b xs h; cases h)
theorem law7n {x y z : PC} (hx : intS x) (hy : intS y) (hz : strS z) : PureC Tryd.prog 7 [x, y, z] (.bool true) := by
  obtain ⟨n, rfl, h1, h2⟩ := hx
  obtain ⟨k, rfl, _, _⟩ := hy
  obtain ⟨j, rfl, h3⟩ := hz
  exact law7 n k h1 h2 j h3
end Go.Av
