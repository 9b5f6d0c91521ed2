/- date.Parse answers as the document's does. -/
import Derived.Test.YtffoncjofjgojaaGreatDoorZo
set_option linter.all false
/-! part Z148 -/
namespace Go.Av
open Go.Proofs
set_option maxRecDepth 100000
theorem at_drop {s : List UInt8} {a : Nat} {c : UInt8} {r : List UInt8} (h : s.drop a = c :: r) : s[a]? = some c ∧ s.drop (a + 1) = r := by
  constructor
  · have := congrArg (·[0]?) h
    simpa using this
  · rw [← List.drop_drop, h]; rfl
theorem dig_num (d : Nat) (h : d < 10) : ¬ ((UInt8.ofNat (48 + d)).toNat < 48 ∨ 57 < (UInt8.ofNat (48 + d)).toNat) ∧ (UInt8.ofNat (48 + d)).toNat - 48 = d := by
  have : (UInt8.ofNat (48 + d)).toNat = 48 + d := by simp; omega
  rw [this]; omega
theorem num_step {s : List UInt8} {a d : Nat} {r : List UInt8} (k v : Nat) (hd : d < 10) (h : s.drop a = UInt8.ofNat (48 + d) :: r) : numR s (k + 1) a v = numR s k (a + 1) (v * 10 + d) ∧ s.drop (a + 1) = r := by
  obtain ⟨h1, h2⟩ := at_drop h
  obtain ⟨e1, e2⟩ := dig_num d hd
  refine ⟨?_, h2⟩
  simp only [numR, h1]
  rw [if_neg e1, e2]
theorem num2_at {s : List UInt8} {a : Nat} {n : Int} {r : List UInt8} (h0 : 0 ≤ n) (h1 : n < 100) (h : s.drop a = p2 n ++ r) : numR s 2 a 0 = n := by
  unfold p2 at h
  rw [pad_dig 1 n.toNat (by simp; omega)] at h
  simp only [digR, List.nil_append, List.cons_append, List.append_assoc] at h
  obtain ⟨e1, h2⟩ := num_step 1 0 (by omega) h
  obtain ⟨e2, _⟩ := num_step 0 _ (by omega) h2
  rw [e1, e2]
  simp only [numR]
  omega
theorem num4_at {s : List UInt8} {a : Nat} {n : Int} {r : List UInt8} (h0 : 0 ≤ n) (h1 : n < 10000) (h : s.drop a = p4 n ++ r) : numR s 4 a 0 = n := by
  unfold p4 at h
  rw [pad_dig 3 n.toNat (by simp; omega)] at h
  simp only [digR, List.nil_append, List.cons_append, List.append_assoc] at h
  obtain ⟨e1, h2⟩ := num_step 3 0 (by omega) h
  obtain ⟨e2, h3⟩ := num_step 2 _ (by omega) h2
  obtain ⟨e3, h4⟩ := num_step 1 _ (by omega) h3
  obtain ⟨e4, _⟩ := num_step 0 _ (by omega) h4
  rw [e1, e2, e3, e4]
  simp only [numR]
  omega
theorem find_at {s : List UInt8} {f : Nat} {m : Int} {r : List UInt8} (h0 : 1 ≤ m) (h1 : m ≤ 12) (h : s.drop f = monB m ++ r) : findR s f = m - 1 := by
  have hm : m = ((m - 1).toNat : Int) + 1 := by omega
  generalize (m - 1).toNat = k at hm
  subst hm
  have hl := mon_len3 (k := k) (by omega)
  unfold findR
  rw [h, List.take_left' hl]
  rcases mon_at (monB ((k : Int) + 1)) with ⟨j, hj, e, e2⟩ | ⟨_, e⟩
  · rw [e, mon_inj hj (by omega) e2]; simp only; omega
  · exact absurd rfl (e k (by omega))
end Go.Av

/-! part Z149 -/
namespace Go.Av
open Go.Proofs
set_option maxRecDepth 100000
theorem l2 {L : List UInt8} (h : L.length = 2) : ∃ a b, L = [a, b] := by
  match L, h with
  | [a, b], _ => exact ⟨a, b, rfl⟩
theorem l3 {L : List UInt8} (h : L.length = 3) : ∃ a b c, L = [a, b, c] := by
  match L, h with
  | [a, b, c], _ => exact ⟨a, b, c, rfl⟩
theorem l4 {L : List UInt8} (h : L.length = 4) : ∃ a b c d, L = [a, b, c, d] := by
  match L, h with
  | [a, b, c, d], _ => exact ⟨a, b, c, d, rfl⟩
theorem p4_len (n : Int) (h0 : 0 ≤ n) (h1 : n < 10000) : (p4 n).length = 4 := by
  unfold p4
  rw [pad_dig 3 n.toNat (by simp; omega)]
  simp [digR]
theorem monB_len (m : Int) (h0 : 1 ≤ m) (h1 : m ≤ 12) : (monB m).length = 3 := by
  have hm : m = ((m - 1).toNat : Int) + 1 := by omega
  rw [hm]; exact mon_len3 (by omega)
theorem fm0_at (c : Civ) (hc : COk c) : (fm0 (wkd c)).length = 29 ∧ pt0 (fm0 (wkd c)) = ⟨c.y, c.mo - 1, c.d, c.h, c.mi, c.s⟩ := by
  obtain ⟨q1, q2, q3, q4, q5, q6, q7⟩ := hc
  have hlb := len_b c.y c.mo
  have hw := wd_3 (dayB c % 7) (by omega) (by omega)
  obtain ⟨w0, w1, w2, hW⟩ := l3 (L := (wdB (dayB c % 7)).take 3) (by rw [List.length_take]; omega)
  obtain ⟨d0, d1, hD⟩ := l2 (p2_len c.d (by omega) (by omega))
  obtain ⟨m0, m1, m2, hM⟩ := l3 (monB_len c.mo q3.1 q3.2)
  obtain ⟨y0, y1, y2, y3, hY⟩ := l4 (p4_len c.y (by omega) (by omega))
  obtain ⟨h0, h1, hH⟩ := l2 (p2_len c.h (by omega) (by omega))
  obtain ⟨i0, i1, hI⟩ := l2 (p2_len c.mi (by omega) (by omega))
  obtain ⟨s0, s1, hS⟩ := l2 (p2_len c.s (by omega) (by omega))
  have hf : fm0 (wkd c) = [w0, w1, w2] ++ 44 :: 32 :: ([d0, d1] ++ 32 :: ([m0, m1, m2] ++ 32 :: ([y0, y1, y2, y3] ++ 32 :: (([h0, h1] ++ 58 :: ([i0, i1] ++ 58 :: [s0, s1])) ++ gmtB)))) := by
    rw [← hW, ← hD, ← hM, ← hY, ← hH, ← hI, ← hS]; rfl
  rw [hf]
  refine ⟨rfl, ?_⟩
  unfold pt0
  rw [num4_at (n := c.y) (by omega) (by omega) (by rw [hY]; rfl), find_at (m := c.mo) q3.1 q3.2 (by rw [hM]; rfl), num2_at (n := c.d) (by omega) (by omega) (by rw [hD]; rfl),
    num2_at (n := c.h) (by omega) (by omega) (by rw [hH]; rfl), num2_at (n := c.mi) (by omega) (by omega) (by rw [hI]; rfl), num2_at (n := c.s) (by omega) (by omega) (by rw [hS]; rfl)]
end Go.Av

/-! part Z150 -/
namespace Go.Av
open Go.Proofs
set_option maxRecDepth 100000
theorem drop_k {l m : List UInt8} {k : Nat} (h : l.length = k) (j : Nat) : (l ++ m).drop (k + j) = m.drop j := by
  rw [← List.drop_drop, List.drop_left' h]
theorem fm1_at (c : Civ) (hc : COk c) (hy : c.y ≤ 2069) : (fm1 (wkd c)).length = (wdB (dayB c % 7)).length + 24 ∧ (fm1 (wkd c)).take (wdB (dayB c % 7)).length = wdB (dayB c % 7) ∧ numR (fm1 (wkd c)) 2 ((wdB (dayB c % 7)).length + 9) 0 = c.y % 100 ∧
    pt1 (fm1 (wkd c)) (wdB (dayB c % 7)).length = ⟨c.y, c.mo - 1, c.d, c.h, c.mi, c.s⟩ := by
  obtain ⟨q1, q2, q3, q4, q5, q6, q7⟩ := hc
  have hlb := len_b c.y c.mo
  obtain ⟨d0, d1, hD⟩ := l2 (p2_len c.d (by omega) (by omega))
  obtain ⟨m0, m1, m2, hM⟩ := l3 (monB_len c.mo q3.1 q3.2)
  obtain ⟨y0, y1, hY⟩ := l2 (p2_len (c.y % 100) (by omega) (by omega))
  obtain ⟨h0, h1, hH⟩ := l2 (p2_len c.h (by omega) (by omega))
  obtain ⟨i0, i1, hI⟩ := l2 (p2_len c.mi (by omega) (by omega))
  obtain ⟨s0, s1, hS⟩ := l2 (p2_len c.s (by omega) (by omega))
  have hf : fm1 (wkd c) = wdB (dayB c % 7) ++ (44 :: 32 :: ([d0, d1] ++ 45 :: ([m0, m1, m2] ++ 45 :: ([y0, y1] ++ 32 :: (([h0, h1] ++ 58 :: ([i0, i1] ++ 58 :: [s0, s1])) ++ gmtB))))) := by
    rw [← hD, ← hM, ← hY, ← hH, ← hI, ← hS]; rfl
  rw [hf]
  obtain ⟨k, hk⟩ : ∃ k, (wdB (dayB c % 7)).length = k := ⟨_, rfl⟩
  rw [hk]
  generalize wdB (dayB c % 7) = W at *
  have hn : numR (W ++ (44 :: 32 :: ([d0, d1] ++ 45 :: ([m0, m1, m2] ++ 45 :: ([y0, y1] ++ 32 :: (([h0, h1] ++ 58 :: ([i0, i1] ++ 58 :: [s0, s1])) ++ gmtB)))))) 2 (k + 9) 0 = c.y % 100 :=
    num2_at (n := c.y % 100) (by omega) (by omega) (by rw [drop_k hk, hY]; rfl)
  refine ⟨by rw [List.length_append, hk]; rfl, List.take_left' hk, hn, ?_⟩
  unfold pt1
  rw [hn, find_at (m := c.mo) q3.1 q3.2 (by rw [drop_k hk, hM]; rfl), num2_at (n := c.d) (by omega) (by omega) (by rw [drop_k hk, hD]; rfl),
    num2_at (n := c.h) (by omega) (by omega) (by rw [drop_k hk, hH]; rfl), num2_at (n := c.mi) (by omega) (by omega) (by rw [drop_k hk, hI]; rfl), num2_at (n := c.s) (by omega) (by omega) (by rw [drop_k hk, hS]; rfl)]
  have : yr1 (c.y % 100) = c.y := by unfold yr1; split <;> omega
  rw [this]
theorem fm2_at (c : Civ) (hc : COk c) : (fm2 (wkd c)).length = 24 ∧ pt2 (fm2 (wkd c)) = ⟨c.y, c.mo - 1, c.d, c.h, c.mi, c.s⟩ := by
  obtain ⟨q1, q2, q3, q4, q5, q6, q7⟩ := hc
  have hlb := len_b c.y c.mo
  have hw := wd_3 (dayB c % 7) (by omega) (by omega)
  obtain ⟨w0, w1, w2, hW⟩ := l3 (L := (wdB (dayB c % 7)).take 3) (by rw [List.length_take]; omega)
  obtain ⟨m0, m1, m2, hM⟩ := l3 (monB_len c.mo q3.1 q3.2)
  obtain ⟨y0, y1, y2, y3, hY⟩ := l4 (p4_len c.y (by omega) (by omega))
  obtain ⟨h0, h1, hH⟩ := l2 (p2_len c.h (by omega) (by omega))
  obtain ⟨i0, i1, hI⟩ := l2 (p2_len c.mi (by omega) (by omega))
  obtain ⟨s0, s1, hS⟩ := l2 (p2_len c.s (by omega) (by omega))
  have hD : p2 c.d = [UInt8.ofNat (48 + c.d.toNat / 10 % 10), UInt8.ofNat (48 + c.d.toNat % 10)] := by
    unfold p2; rw [pad_dig 1 c.d.toNat (by simp; omega)]; rfl
  have hx : ∃ a b, dshB c.d = [a, b] := by
    unfold dshB; rw [hD]
    split
    · exact ⟨_, _, rfl⟩
    · exact ⟨_, _, rfl⟩
  obtain ⟨a, b, hab⟩ := hx
  have hf : fm2 (wkd c) = [w0, w1, w2] ++ 32 :: ([m0, m1, m2] ++ 32 :: ([a, b] ++ 32 :: (([h0, h1] ++ 58 :: ([i0, i1] ++ 58 :: [s0, s1])) ++ 32 :: [y0, y1, y2, y3]))) := by
    rw [← hW, ← hM, ← hY, ← hH, ← hI, ← hS, ← hab]; rfl
  have hday : dayD (fm2 (wkd c)) = c.d := by
    rw [hf]
    unfold dayD
    unfold dshB at hab
    by_cases c10 : c.d < 10
    · rw [if_pos c10, hD] at hab
      injection hab with e1 e2
      injection e2 with e3 _
      rw [if_pos (show _ = _ by rw [← e1]; rfl), ← e3]
      obtain ⟨g1, _⟩ := num_step (s := [w0, w1, w2] ++ 32 :: ([m0, m1, m2] ++ 32 :: ([a, UInt8.ofNat (48 + c.d.toNat % 10)] ++ 32 :: (([h0, h1] ++ 58 :: ([i0, i1] ++ 58 :: [s0, s1])) ++ 32 :: [y0, y1, y2, y3])))) (a := 9) (d := c.d.toNat % 10) 0 0 (by omega) rfl
      rw [g1]
      simp only [numR]
      omega
    · rw [if_neg c10] at hab
      have ha : a ≠ 32 := by
        rw [hD] at hab
        injection hab with e1 _
        rw [← e1]
        intro e
        have := (dig_num (c.d.toNat / 10 % 10) (by omega)).1
        rw [e] at this
        exact this (.inl (by decide))
      split
      · rename_i e
        exact absurd (Option.some.inj (show some a = some 32 from e)) ha
      · exact num2_at (n := c.d) (by omega) (by omega) (by rw [hab]; rfl)
  refine ⟨by rw [hf]; rfl, ?_⟩
  unfold pt2
  rw [hday, hf]
  rw [num4_at (n := c.y) (by omega) (by omega) (by rw [hY]; rfl), find_at (m := c.mo) q3.1 q3.2 (by rw [hM]; rfl),
    num2_at (n := c.h) (by omega) (by omega) (by rw [hH]; rfl), num2_at (n := c.mi) (by omega) (by omega) (by rw [hI]; rfl), num2_at (n := c.s) (by omega) (by omega) (by rw [hS]; rfl)]
end Go.Av

/-! part Z151 -/
namespace Go.Av
open Go.Proofs
set_option maxRecDepth 100000
def ptC (c : Civ) : Pt := ⟨c.y, c.mo - 1, c.d, c.h, c.mi, c.s⟩
theorem civ_pt (c : Civ) : civR c.y (c.mo - 1) c.d c.h c.mi c.s = { c with w := 0 } := by
  unfold civR
  rw [show c.mo - 1 + 1 = c.mo by omega]
theorem wkd_w (c : Civ) : wkd { c with w := 0 } = wkd c := rfl
theorem join_w (c : Civ) : joinB { c with w := 0 } = joinB c := rfl
theorem mom_ok (c : Civ) (hc : COk c) : momOk c.y (c.mo - 1) c.d c.h c.mi c.s = true := by
  obtain ⟨q1, q2, q3, q4, q5, q6, q7⟩ := hc
  unfold momOk
  rw [show c.mo - 1 + 1 = c.mo by omega]
  simp only [Bool.not_eq_true', Bool.or_eq_false_iff, decide_eq_false_iff_not]
  omega
theorem hit_at (c : Civ) (hc : COk c) (k : Int) : (ptC c).hit k (fmK k (wkd c)) = true ∧ (ptC c).at = joinB c := by
  constructor
  · unfold Pt.hit hitR ptC
    simp only
    rw [mom_ok c hc, civ_pt, wkd_w]
    simp
  · unfold Pt.at ptC
    simp only
    rw [civ_pt, join_w]
theorem rp_fm0 (c : Civ) (hc : COk c) : rparseB (fm0 (wkd c)) = (joinB c, 0) := by
  obtain ⟨h1, h2⟩ := fm0_at c hc
  obtain ⟨h3, h4⟩ := hit_at c hc 0
  have h2' : pt0 (fm0 (wkd c)) = ptC c := h2
  unfold rparseB
  rw [h2', if_pos ⟨h1, h3⟩, h4]
theorem rp_fm2 (c : Civ) (hc : COk c) : rparseB (fm2 (wkd c)) = (joinB c, 0) := by
  obtain ⟨h1, h2⟩ := fm2_at c hc
  obtain ⟨h3, h4⟩ := hit_at c hc 2
  have h2' : pt2 (fm2 (wkd c)) = ptC c := h2
  unfold rparseB
  rw [if_neg (by rw [h1]; simp), h2', if_pos ⟨h1, h3⟩, h4]
/-- whatever is answered is written so -/
structure Good (s : List UInt8) (c : Civ) (k : Int) : Prop where
  ok : COk c
  fm : fmK k (wkd c) = s
  k : k = 0 ∨ k = 2 ∨ (k = 1 ∧ c.y ≤ 2069)
theorem hit_good {p : Pt} {k : Int} {s : List UInt8} (hp : PIn p.y p.m p.d p.h p.mi p.s) (h : p.hit k s = true) (hk : k = 0 ∨ k = 2 ∨ (k = 1 ∧ p.y ≤ 2069)) : ∃ c, Good s c k ∧ p.at = joinB c := by
  unfold Pt.hit hitR at h
  simp only [Bool.and_eq_true, decide_eq_true_eq] at h
  exact ⟨civR p.y p.m p.d p.h p.mi p.s, ⟨mom_civ hp h.1, h.2, hk⟩, rfl⟩
theorem rlp_good (s : List UInt8) : ∀ n w, rlp s n w = (0, 10) ∨ ∃ c, Good s c 1 ∧ rlp s n w = (joinB c, 0)
  | 0, _ => .inl rfl
  | n + 1, w => by
    simp only [rlp]
    split
    · split
      · exact .inl rfl
      · split
        · rename_i h
          refine .inr ?_
          have nb := num2_b s ((dayW w).length + 9)
          obtain ⟨c, hc, e⟩ := hit_good (pin1 s (dayW w).length) h (.inr (.inr ⟨rfl, by show yr1 _ ≤ 2069; unfold yr1; split <;> omega⟩))
          exact ⟨c, hc, by rw [e]⟩
        · exact rlp_good s n (w + 1)
    · exact rlp_good s n (w + 1)
theorem rp_good (s : List UInt8) : rparseB s = (0, 10) ∨ ∃ c k, Good s c k ∧ rparseB s = (joinB c, 0) := by
  unfold rparseB
  split
  · rename_i h
    obtain ⟨c, hc, e⟩ := hit_good (pin0 s) h.2 (.inl rfl)
    exact .inr ⟨c, 0, hc, by rw [e]⟩
  · split
    · rename_i h
      obtain ⟨c, hc, e⟩ := hit_good (pin2 s) h.2 (.inr (.inl rfl))
      exact .inr ⟨c, 2, hc, by rw [e]⟩
    · rcases rlp_good s 7 0 with h | ⟨c, hc, e⟩
      · exact .inl h
      · exact .inr ⟨c, 1, hc, e⟩
end Go.Av

/-! part Z152 -/
namespace Go.Av
open Go.Proofs
set_option maxRecDepth 100000
theorem day_inj {w v : Nat} (hw : w < 7) (hv : v < 7) (h : dayW w = dayW v) : w = v := by
  have key : ((List.range 7).all fun w => (List.range 7).all fun v => decide (dayW w = dayW v → w = v)) = true := by kernel_rfl
  have h1 := List.all_eq_true.1 key w (by simpa using hw)
  have h2 := List.all_eq_true.1 h1 v (by simpa using hv)
  exact of_decide_eq_true h2 h
theorem day_six {w : Nat} (hw : w < 7) : 6 ≤ (dayW w).length := by
  have key : ((List.range 7).all fun w => decide (6 ≤ (dayW w).length)) = true := by kernel_rfl
  have h1 := List.all_eq_true.1 key w (by simpa using hw)
  exact of_decide_eq_true h1
theorem rlp_fm1 (c : Civ) (hc : COk c) (hy : c.y ≤ 2069) (v : Nat) (hv : v < 7) (hd : dayW v = wdB (dayB c % 7)) : ∀ n w, w ≤ v → v < n + w → rlp (fm1 (wkd c)) n w = (joinB c, 0)
  | 0, w, h1, h2 => by omega
  | n + 1, w, h1, h2 => by
    obtain ⟨g1, g2, g3, g4⟩ := fm1_at c hc hy
    obtain ⟨g5, g6⟩ := hit_at c hc 1
    rw [← hd] at g1 g2 g3 g4
    simp only [rlp]
    by_cases e : w = v
    · subst e
      have q1 := hc.y
      have g4' : pt1 (fm1 (wkd c)) (dayW w).length = ptC c := g4
      have g5' : (ptC c).hit 1 (fm1 (wkd c)) = true := g5
      rw [if_pos ⟨g1, g2⟩, g3, if_neg (by omega), g4', if_pos g5', g6]
    · rw [if_neg]
      · exact rlp_fm1 c hc hy v hv hd n (w + 1) (by omega) (by omega)
      · rintro ⟨a1, a2⟩
        have hl : (dayW w).length = (dayW v).length := by omega
        rw [hl, g2] at a2
        exact e (day_inj (by omega) hv a2.symm)
theorem rp_fm1 (c : Civ) (hc : COk c) (hy : c.y ≤ 2069) : rparseB (fm1 (wkd c)) = (joinB c, 0) := by
  obtain ⟨v, hv⟩ : ∃ v : Nat, (v : Int) = (dayB c + 4) % 7 := ⟨((dayB c + 4) % 7).toNat, by omega⟩
  have hv7 : v < 7 := by omega
  have hd : dayW v = wdB (dayB c % 7) := by
    unfold dayW
    rw [hv, show ((dayB c + 4) % 7 + 3) % 7 = dayB c % 7 by omega]
  have h6 := day_six hv7
  obtain ⟨g1, _⟩ := fm1_at c hc hy
  rw [← hd] at g1
  unfold rparseB
  rw [if_neg (by intro h; have := h.1; omega), if_neg (by intro h; have := h.1; omega)]
  exact rlp_fm1 c hc hy v hv7 hd 7 0 (by omega) (by omega)
theorem rp_of_good {s : List UInt8} {c : Civ} {k : Int} (h : Good s c k) : rparseB s = (joinB c, 0) := by
  obtain ⟨hc, hf, hk⟩ := h
  rcases hk with rfl | rfl | ⟨rfl, hy⟩
  · rw [← hf]; exact rp_fm0 c hc
  · rw [← hf]; exact rp_fm2 c hc
  · rw [← hf]; exact rp_fm1 c hc hy
end Go.Av

/-! part Z153 -/
namespace Go.Av
open Go.Proofs
set_option maxRecDepth 100000
theorem ix_none {l : List UInt8} {c : UInt8} (h : c ∉ l) : ixB l c < 0 := by
  rcases Int.lt_or_le (ixB l c) 0 with h1 | h1
  · exact h1
  · exact absurd (List.mem_of_getElem? (ixB_at l c h1)) h
theorem ix_at {p : List UInt8} {c : UInt8} (r : List UInt8) (h : c ∉ p) : ixB (p ++ c :: r) c = p.length := by
  induction p with
  | nil => simp only [List.nil_append]; rw [ixB_cons, if_pos rfl]; rfl
  | cons a p ih =>
    have ha : a ≠ c := fun e => h (by rw [e]; simp)
    have ih' := ih (fun e => h (by simp [e]))
    simp only [List.cons_append]
    rw [ixB_cons, if_neg ha, ih', if_neg (by omega)]
    simp
theorem spl_step {p : List UInt8} {c : UInt8} (r : List UInt8) (n : Nat) (h : c ∉ p) : splB c (n + 1) (p ++ c :: r) = p :: splB c n r := by
  simp only [splB]
  rw [ix_at r h, if_neg (by omega)]
  simp
theorem spl_last {p : List UInt8} {c : UInt8} (n : Nat) (h : c ∉ p) : splB c n p = [p] := by
  cases n with
  | zero => rfl
  | succ n => simp only [splB]; rw [if_pos (ix_none h)]
end Go.Av

/-! part Z154 -/
namespace Go.Av
open Go.Proofs
set_option maxRecDepth 100000
theorem dig_p2n {n : Int} (h0 : 0 ≤ n) (h1 : n < 100) : digB (p2 n) = n := by
  have key : ((List.range 100).all fun k => decide (digB (p2 (k : Int)) = (k : Int))) = true := by kernel_rfl
  have h := List.all_eq_true.1 key n.toNat (by simp; omega)
  have h2 := of_decide_eq_true h
  rw [show ((n.toNat : Nat) : Int) = n by omega] at h2
  exact h2
theorem mon_ixB {m : Int} (h0 : 1 ≤ m) (h1 : m ≤ 12) : monIx (monB m) = some (m - 1).toNat := by
  have key : ((List.range 12).all fun k => decide (monIx (monB ((k : Int) + 1)) = some k)) = true := by kernel_rfl
  have h := List.all_eq_true.1 key (m - 1).toNat (by simp; omega)
  have h2 := of_decide_eq_true h
  rw [show (((m - 1).toNat : Nat) : Int) + 1 = m by omega] at h2
  exact h2
end Go.Av

/-! part Z155 -/
namespace Go.Av
open Go.Proofs
set_option maxRecDepth 1000000
theorem dig_p4k : ((List.range 100).all fun j => (List.range 100).all fun k => decide (digB (p4 (((j * 100 + k : Nat)) : Int)) = ((j * 100 + k : Nat) : Int))) = true := by kernel_rfl
theorem dig_p4n {n : Int} (h0 : 0 ≤ n) (h1 : n < 10000) : digB (p4 n) = n := by
  have h := List.all_eq_true.1 dig_p4k (n.toNat / 100) (by simp; omega)
  have h2 := of_decide_eq_true (List.all_eq_true.1 h (n.toNat % 100) (by simp; omega))
  rw [show ((n.toNat / 100 * 100 + n.toNat % 100 : Nat) : Int) = n by omega] at h2
  exact h2
end Go.Av

/-! part Z156 -/
namespace Go.Av
open Go.Proofs
set_option maxRecDepth 100000
theorem digR_in (k n : Nat) : ∀ x ∈ digR k n, 48 ≤ x.toNat ∧ x.toNat ≤ 57 := by
  induction k generalizing n with
  | zero => simp [digR]
  | succ k ih =>
    intro x hx
    simp only [digR, List.mem_append, List.mem_singleton] at hx
    rcases hx with hx | rfl
    · exact ih _ x hx
    · simp; omega
theorem p2_no {n : Int} (h0 : 0 ≤ n) (h1 : n < 100) {c : UInt8} (hc : c.toNat < 48 ∨ 57 < c.toNat) : c ∉ p2 n := by
  unfold p2
  rw [pad_dig 1 n.toNat (by simp; omega)]
  exact fun h => by have := digR_in _ _ c h; omega
theorem p4_no {n : Int} (h0 : 0 ≤ n) (h1 : n < 10000) {c : UInt8} (hc : c.toNat < 48 ∨ 57 < c.toNat) : c ∉ p4 n := by
  unfold p4
  rw [pad_dig 3 n.toNat (by simp; omega)]
  exact fun h => by have := digR_in _ _ c h; omega
theorem mon_no {m : Int} (h0 : 1 ≤ m) (h1 : m ≤ 12) : 32 ∉ monB m ∧ 45 ∉ monB m ∧ 58 ∉ monB m := by
  have key : ((List.range 12).all fun k => decide (32 ∉ monB ((k : Int) + 1) ∧ 45 ∉ monB ((k : Int) + 1) ∧ 58 ∉ monB ((k : Int) + 1))) = true := by kernel_rfl
  have h := of_decide_eq_true (List.all_eq_true.1 key (m - 1).toNat (by simp; omega))
  rw [show (((m - 1).toNat : Nat) : Int) + 1 = m by omega] at h
  exact h
theorem wd_no {w : Int} (h0 : 0 ≤ w) (h1 : w < 7) : 32 ∉ wdB w ∧ 45 ∉ wdB w ∧ 58 ∉ wdB w := by
  have key : ((List.range 7).all fun k => decide (32 ∉ wdB (k : Int) ∧ 45 ∉ wdB (k : Int) ∧ 58 ∉ wdB (k : Int))) = true := by kernel_rfl
  have h := of_decide_eq_true (List.all_eq_true.1 key w.toNat (by simp; omega))
  rw [show ((w.toNat : Nat) : Int) = w by omega] at h
  exact h
end Go.Av

/-! part Z157 -/
namespace Go.Av
open Go.Proofs
set_option maxRecDepth 100000
def joinC (c : UInt8) : List (List UInt8) → List UInt8
  | [] => []
  | [p] => p
  | p :: q :: ps => p ++ c :: joinC c (q :: ps)
theorem spl_join (c : UInt8) : ∀ ps : List (List UInt8), ps ≠ [] → (∀ p ∈ ps, c ∉ p) → (joinC c ps).count c + 1 = ps.length ∧ ∀ n, ps.length ≤ n + 1 → splB c n (joinC c ps) = ps
  | [], h, _ => absurd rfl h
  | [p], _, hp => by
    have h1 := hp p (by simp)
    exact ⟨by simp only [joinC]; rw [List.count_eq_zero.2 h1]; rfl, fun n _ => spl_last n h1⟩
  | p :: q :: ps, _, hp => by
    have h1 := hp p (by simp)
    obtain ⟨h2, h3⟩ := spl_join c (q :: ps) (by simp) (fun x hx => hp x (by simp [hx]))
    refine ⟨?_, fun n hn => ?_⟩
    · simp only [joinC, List.count_append, List.count_cons_self, List.length_cons] at h2 ⊢
      rw [List.count_eq_zero.2 h1]
      omega
    · simp only [List.length_cons] at hn
      cases n with
      | zero => omega
      | succ n =>
        simp only [joinC]
        rw [spl_step _ n h1, h3 n (by simp only [List.length_cons]; omega)]
theorem spl_cut {c : UInt8} {ps : List (List UInt8)} (h : ps ≠ []) (hp : ∀ p ∈ ps, c ∉ p) : splB c ((joinC c ps).count c) (joinC c ps) = ps := by
  obtain ⟨h1, h2⟩ := spl_join c ps h hp
  exact h2 _ (by omega)
end Go.Av

/-! part Z158 -/
namespace Go.Av
open Go.Proofs
set_option maxRecDepth 100000
theorem clk_join (c : Civ) : clkS c = joinC 58 [p2 c.h, p2 c.mi, p2 c.s] := rfl
theorem tim_clk (c : Civ) (hc : COk c) : timX (clkS c) = some (p2 c.h, p2 c.mi, p2 c.s) := by
  obtain ⟨q1, q2, q3, q4, q5, q6, q7⟩ := hc
  have a1 := p2_len c.h (by omega) (by omega)
  have a2 := p2_len c.mi (by omega) (by omega)
  have a3 := p2_len c.s (by omega) (by omega)
  have hs : splB 58 ((clkS c).count 58) (clkS c) = [p2 c.h, p2 c.mi, p2 c.s] := by
    rw [clk_join]
    refine spl_cut (by simp) (fun p hp => ?_)
    simp only [List.mem_cons, List.not_mem_nil, or_false] at hp
    rcases hp with rfl | rfl | rfl
    · exact p2_no (by omega) (by omega) (.inr (by decide))
    · exact p2_no (by omega) (by omega) (.inr (by decide))
    · exact p2_no (by omega) (by omega) (.inr (by decide))
  unfold timX
  rw [hs]
  simp only
  rw [if_pos ⟨by unfold clkS; simp [a1, a2, a3], a1, a2⟩]
theorem tim_ok (c : Civ) (hc : COk c) : timO (clkS c) = true ∧ ∀ c0 : Civ, timC c0 (clkS c) = { c0 with h := c.h, mi := c.mi, s := c.s } := by
  have hx := tim_clk c hc
  obtain ⟨q1, q2, q3, q4, q5, q6, q7⟩ := hc
  have e1 := dig_p2n (n := c.h) (by omega) (by omega)
  have e2 := dig_p2n (n := c.mi) (by omega) (by omega)
  have e3 := dig_p2n (n := c.s) (by omega) (by omega)
  constructor
  · unfold timO
    rw [hx]
    simp only [e1, e2, e3, Bool.and_eq_true, decide_eq_true_eq]
    omega
  · intro c0
    unfold timC
    rw [hx]
    simp only [e1, e2, e3]
theorem yr_p4 {n : Int} (h0 : 1970 ≤ n) (h1 : n ≤ 9999) : yrB (p4 n) = n := by
  unfold yrB
  rw [if_neg (by rw [p4_len n (by omega) (by omega)]; simp), dig_p4n (by omega) (by omega)]
theorem dat_ok4 (c : Civ) (hc : COk c) : datO (p2 c.d) (monB c.mo) (p4 c.y) = true ∧ ∀ c0 : Civ, datC c0 (p2 c.d) (monB c.mo) (p4 c.y) = { c0 with y := c.y, mo := c.mo, d := c.d } := by
  obtain ⟨q1, q2, q3, q4, q5, q6, q7⟩ := hc
  have hlb := len_b c.y c.mo
  have e1 := dig_p2n (n := c.d) (by omega) (by omega)
  have e2 := yr_p4 q1 q2
  have e3 := mon_ixB q3.1 q3.2
  have e4 : (((c.mo - 1).toNat + 1 : Nat) : Int) = c.mo := by omega
  constructor
  · unfold datO
    rw [e3]
    simp only [e1, e2, e4, Bool.and_eq_true, decide_eq_true_eq]
    omega
  · intro c0
    unfold datC
    rw [e3]
    simp only [e1, e2, e4]
end Go.Av

/-! part Z159 -/
namespace Go.Av
open Go.Proofs
set_option maxRecDepth 100000
theorem clk_no (c : Civ) (hc : COk c) : 32 ∉ clkS c := by
  obtain ⟨q1, q2, q3, q4, q5, q6, q7⟩ := hc
  have a1 := p2_no (n := c.h) (c := 32) (by omega) (by omega) (.inl (by decide))
  have a2 := p2_no (n := c.mi) (c := 32) (by omega) (by omega) (.inl (by decide))
  have a3 := p2_no (n := c.s) (c := 32) (by omega) (by omega) (.inl (by decide))
  unfold clkS
  simp [a1, a2, a3]
theorem fm0_join (c : Civ) : fm0 (wkd c) = joinC 32 [(wdB (dayB c % 7)).take 3 ++ [44], p2 c.d, monB c.mo, p4 c.y, clkS c, [71, 77, 84]] := by
  show (wdB (dayB c % 7)).take 3 ++ 44 :: 32 :: (p2 c.d ++ 32 :: (monB c.mo ++ 32 :: (p4 c.y ++ 32 :: (clkS c ++ gmtB)))) = _
  simp [joinC, gmtB]
def civT (c : Civ) : Civ := ⟨c.y, c.mo, c.d, c.h, c.mi, c.s, 0⟩
theorem parts_fm0 (c : Civ) (hc : COk c) : partsB (fm0 (wkd c)) = some (civT c, 0) := by
  obtain ⟨t1, t2⟩ := tim_ok c hc
  obtain ⟨d1, d2⟩ := dat_ok4 c hc
  have hk := clk_no c hc
  obtain ⟨q1, q2, q3, q4, q5, q6, q7⟩ := hc
  have hlb := len_b c.y c.mo
  have hs : splB 32 ((fm0 (wkd c)).count 32) (fm0 (wkd c)) = [(wdB (dayB c % 7)).take 3 ++ [44], p2 c.d, monB c.mo, p4 c.y, clkS c, [71, 77, 84]] := by
    rw [fm0_join]
    refine spl_cut (by simp) (fun p hp => ?_)
    simp only [List.mem_cons, List.not_mem_nil, or_false] at hp
    rcases hp with rfl | rfl | rfl | rfl | rfl | rfl
    · have hw := (wd_no (w := dayB c % 7) (by omega) (by omega)).1
      intro h
      rcases List.mem_append.1 h with h | h
      · exact hw (List.mem_of_mem_take h)
      · simp at h
    · exact p2_no (by omega) (by omega) (.inl (by decide))
    · exact (mon_no q3.1 q3.2).1
    · exact p4_no (by omega) (by omega) (.inl (by decide))
    · exact hk
    · decide
  unfold partsB
  rw [hs]
  simp only [partsL]
  rw [if_pos ⟨by unfold sfxB; simp, d1, t1⟩, d2, t2]
  rfl
end Go.Av

/-! part Z160 -/
namespace Go.Av
open Go.Proofs
set_option maxRecDepth 100000
theorem dig_one {n : Int} (h0 : 1 ≤ n) (h1 : n < 10) : digB ((p2 n).drop 1) = n ∧ 32 ∉ (p2 n).drop 1 := by
  have key : ((List.range 10).all fun k => decide (digB ((p2 (k : Int)).drop 1) = (k : Int) ∧ 32 ∉ (p2 (k : Int)).drop 1)) = true := by kernel_rfl
  have h := of_decide_eq_true (List.all_eq_true.1 key n.toNat (by simp; omega))
  rw [show ((n.toNat : Nat) : Int) = n by omega] at h
  exact h
theorem parts_fm2 (c : Civ) (hc : COk c) : partsB (fm2 (wkd c)) = some (civT c, 2) := by
  obtain ⟨t1, t2⟩ := tim_ok c hc
  obtain ⟨d1, d2⟩ := dat_ok4 c hc
  have hk := clk_no c hc
  obtain ⟨q1, q2, q3, q4, q5, q6, q7⟩ := hc
  have hlb := len_b c.y c.mo
  have hw := (wd_no (w := dayB c % 7) (by omega) (by omega)).1
  have hw3 : 32 ∉ (wdB (dayB c % 7)).take 3 := fun h => hw (List.mem_of_mem_take h)
  have hm := (mon_no q3.1 q3.2).1
  have hy := p4_no (n := c.y) (c := 32) (by omega) (by omega) (.inl (by decide))
  by_cases c10 : c.d < 10
  · obtain ⟨g1, g2⟩ := dig_one (n := c.d) (by omega) c10
    have hj : fm2 (wkd c) = joinC 32 [(wdB (dayB c % 7)).take 3, monB c.mo, [], (p2 c.d).drop 1, clkS c, p4 c.y] := by
      show (wdB (dayB c % 7)).take 3 ++ 32 :: (monB c.mo ++ 32 :: (dshB c.d ++ 32 :: (clkS c ++ 32 :: p4 c.y))) = _
      unfold dshB
      rw [if_pos c10]
      simp [joinC]
    have hs : splB 32 ((fm2 (wkd c)).count 32) (fm2 (wkd c)) = [(wdB (dayB c % 7)).take 3, monB c.mo, [], (p2 c.d).drop 1, clkS c, p4 c.y] := by
      rw [hj]
      refine spl_cut (by simp) (fun p hp => ?_)
      simp only [List.mem_cons, List.not_mem_nil, or_false] at hp
      rcases hp with rfl | rfl | rfl | rfl | rfl | rfl
      · exact hw3
      · exact hm
      · simp
      · exact g2
      · exact hk
      · exact hy
    have e2 := yr_p4 q1 q2
    have e3 := mon_ixB q3.1 q3.2
    have e4 : (((c.mo - 1).toNat + 1 : Nat) : Int) = c.mo := by omega
    have f1 : datO ((p2 c.d).drop 1) (monB c.mo) (p4 c.y) = true := by
      unfold datO
      rw [e3]
      simp only [g1, e2, e4, Bool.and_eq_true, decide_eq_true_eq]
      omega
    have f2 : ∀ c0 : Civ, datC c0 ((p2 c.d).drop 1) (monB c.mo) (p4 c.y) = { c0 with y := c.y, mo := c.mo, d := c.d } := fun c0 => by
      unfold datC
      rw [e3]
      simp only [g1, e2, e4]
    have f3 : datO (monB c.mo) [] ((p2 c.d).drop 1) = false := rfl
    unfold partsB
    rw [hs]
    simp only [partsL]
    rw [if_neg (by rw [f3]; simp), if_pos ⟨trivial, f1, t1⟩, f2, t2]
    rfl
  · have hj : fm2 (wkd c) = joinC 32 [(wdB (dayB c % 7)).take 3, monB c.mo, p2 c.d, clkS c, p4 c.y] := by
      show (wdB (dayB c % 7)).take 3 ++ 32 :: (monB c.mo ++ 32 :: (dshB c.d ++ 32 :: (clkS c ++ 32 :: p4 c.y))) = _
      unfold dshB
      rw [if_neg c10]
      simp [joinC]
    have hs : splB 32 ((fm2 (wkd c)).count 32) (fm2 (wkd c)) = [(wdB (dayB c % 7)).take 3, monB c.mo, p2 c.d, clkS c, p4 c.y] := by
      rw [hj]
      refine spl_cut (by simp) (fun p hp => ?_)
      simp only [List.mem_cons, List.not_mem_nil, or_false] at hp
      rcases hp with rfl | rfl | rfl | rfl | rfl
      · exact hw3
      · exact hm
      · exact p2_no (by omega) (by omega) (.inl (by decide))
      · exact hk
      · exact hy
    unfold partsB
    rw [hs]
    simp only [partsL]
    rw [if_pos ⟨d1, t1⟩, d2, t2]
    rfl
end Go.Av

/-! part Z161 -/
namespace Go.Av
open Go.Proofs
set_option maxRecDepth 100000
theorem yr_p2 {n : Int} (h0 : 1970 ≤ n) (h1 : n ≤ 2069) : yrB (p2 (n % 100)) = n := by
  unfold yrB
  rw [dig_p2n (by omega) (by omega), if_pos ⟨p2_len _ (by omega) (by omega), by omega⟩]
  split <;> omega
theorem parts_fm1 (c : Civ) (hc : COk c) (hy : c.y ≤ 2069) : partsB (fm1 (wkd c)) = some (civT c, 1) := by
  obtain ⟨t1, t2⟩ := tim_ok c hc
  have hk := clk_no c hc
  obtain ⟨q1, q2, q3, q4, q5, q6, q7⟩ := hc
  have hlb := len_b c.y c.mo
  have hw := (wd_no (w := dayB c % 7) (by omega) (by omega)).1
  have hm := mon_no q3.1 q3.2
  have e1 := dig_p2n (n := c.d) (by omega) (by omega)
  have e2 := yr_p2 q1 hy
  have e3 := mon_ixB q3.1 q3.2
  have e4 : (((c.mo - 1).toNat + 1 : Nat) : Int) = c.mo := by omega
  have f1 : datO (p2 c.d) (monB c.mo) (p2 (c.y % 100)) = true := by
    unfold datO
    rw [e3]
    simp only [e1, e2, e4, Bool.and_eq_true, decide_eq_true_eq]
    omega
  have f2 : ∀ c0 : Civ, datC c0 (p2 c.d) (monB c.mo) (p2 (c.y % 100)) = { c0 with y := c.y, mo := c.mo, d := c.d } := fun c0 => by
    unfold datC
    rw [e3]
    simp only [e1, e2, e4]
  have n1 : ∀ x : UInt8, x.toNat < 48 → x ∉ p2 c.d ∧ x ∉ p2 (c.y % 100) := fun x hx => ⟨p2_no (by omega) (by omega) (.inl hx), p2_no (by omega) (by omega) (.inl hx)⟩
  have hj : fm1 (wkd c) = joinC 32 [wdB (dayB c % 7) ++ [44], joinC 45 [p2 c.d, monB c.mo, p2 (c.y % 100)], clkS c, [71, 77, 84]] := by
    show wdB (dayB c % 7) ++ 44 :: 32 :: (p2 c.d ++ 45 :: (monB c.mo ++ 45 :: (p2 (c.y % 100) ++ 32 :: (clkS c ++ gmtB)))) = _
    simp [joinC, gmtB]
  have hs : splB 32 ((fm1 (wkd c)).count 32) (fm1 (wkd c)) = [wdB (dayB c % 7) ++ [44], joinC 45 [p2 c.d, monB c.mo, p2 (c.y % 100)], clkS c, [71, 77, 84]] := by
    rw [hj]
    refine spl_cut (by simp) (fun p hp => ?_)
    simp only [List.mem_cons, List.not_mem_nil, or_false] at hp
    rcases hp with rfl | rfl | rfl | rfl
    · simp [hw]
    · have := n1 32 (by decide); simp [joinC, this, hm.1]
    · exact hk
    · decide
  obtain ⟨g1, g2⟩ := spl_join 45 [p2 c.d, monB c.mo, p2 (c.y % 100)] (by simp) (fun p hp => by
    have := n1 45 (by decide)
    simp only [List.mem_cons, List.not_mem_nil, or_false] at hp
    rcases hp with rfl | rfl | rfl
    · exact this.1
    · exact hm.2.1
    · exact this.2)
  have g3 : (joinC 45 [p2 c.d, monB c.mo, p2 (c.y % 100)]).count 45 = 2 := by simpa using g1
  unfold partsB
  rw [hs]
  simp only [partsL]
  rw [if_pos g3, g2 2 (by simp)]
  simp only
  rw [if_pos ⟨f1, t1⟩, f2, t2]
  rfl
end Go.Av

/-! part Z162 -/
namespace Go.Av
open Go.Proofs
set_option maxRecDepth 100000
theorem pd_of_good {s : List UInt8} {c : Civ} {k : Int} (h : Good s c k) : parseD s = (joinB c, 0) := by
  obtain ⟨hc, hf, hk⟩ := h
  have hp : partsB s = some (civT c, k) := by
    rcases hk with rfl | rfl | ⟨rfl, hy⟩
    · rw [← hf]; exact parts_fm0 c hc
    · rw [← hf]; exact parts_fm2 c hc
    · rw [← hf]; exact parts_fm1 c hc hy
  have e1 : wkd (civT c) = wkd c := rfl
  have e2 : joinB (civT c) = joinB c := rfl
  unfold parseD
  rw [hp]
  simp only
  rw [e1, if_pos hf, e2]
end Go.Av

/-! part Z163 -/
namespace Go.Av
open Go.Proofs
set_option maxRecDepth 100000
theorem yr_two {y : List UInt8} (h : y.length = 2) : yrB y ≤ 2069 := by
  have h1 := dig_two h
  unfold yrB
  split
  · split <;> omega
  · omega
theorem parts_fm1y (c : Civ) (hc : COk c) {q : Civ × Int} (h : partsB (fm1 (wkd c)) = some q) : q.1.y ≤ 2069 := by
  obtain ⟨t1, t2⟩ := tim_ok c hc
  have hk := clk_no c hc
  obtain ⟨q1, q2, q3, q4, q5, q6, q7⟩ := hc
  have hlb := len_b c.y c.mo
  have hw := (wd_no (w := dayB c % 7) (by omega) (by omega)).1
  have hm := mon_no q3.1 q3.2
  have e3 := mon_ixB q3.1 q3.2
  have e2 := yr_two (p2_len (c.y % 100) (by omega) (by omega))
  have n1 : ∀ x : UInt8, x.toNat < 48 → x ∉ p2 c.d ∧ x ∉ p2 (c.y % 100) := fun x hx => ⟨p2_no (by omega) (by omega) (.inl hx), p2_no (by omega) (by omega) (.inl hx)⟩
  have hj : fm1 (wkd c) = joinC 32 [wdB (dayB c % 7) ++ [44], joinC 45 [p2 c.d, monB c.mo, p2 (c.y % 100)], clkS c, [71, 77, 84]] := by
    show wdB (dayB c % 7) ++ 44 :: 32 :: (p2 c.d ++ 45 :: (monB c.mo ++ 45 :: (p2 (c.y % 100) ++ 32 :: (clkS c ++ gmtB)))) = _
    simp [joinC, gmtB]
  have hs : splB 32 ((fm1 (wkd c)).count 32) (fm1 (wkd c)) = [wdB (dayB c % 7) ++ [44], joinC 45 [p2 c.d, monB c.mo, p2 (c.y % 100)], clkS c, [71, 77, 84]] := by
    rw [hj]
    refine spl_cut (by simp) (fun p hp => ?_)
    simp only [List.mem_cons, List.not_mem_nil, or_false] at hp
    rcases hp with rfl | rfl | rfl | rfl
    · simp [hw]
    · have := n1 32 (by decide); simp [joinC, this, hm.1]
    · exact hk
    · decide
  obtain ⟨g1, g2⟩ := spl_join 45 [p2 c.d, monB c.mo, p2 (c.y % 100)] (by simp) (fun p hp => by
    have := n1 45 (by decide)
    simp only [List.mem_cons, List.not_mem_nil, or_false] at hp
    rcases hp with rfl | rfl | rfl
    · exact this.1
    · exact hm.2.1
    · exact this.2)
  have g3 : (joinC 45 [p2 c.d, monB c.mo, p2 (c.y % 100)]).count 45 = 2 := by simpa using g1
  unfold partsB at h
  rw [hs] at h
  simp only [partsL] at h
  rw [if_pos g3, g2 2 (by simp)] at h
  simp only at h
  split at h
  · injection h with h
    subst h
    rw [t2]
    unfold datC
    rw [e3]
    exact e2
  · cases h
theorem parse_eq (s : List UInt8) : rparseB s = parseD s := by
  have hr := rp_good s
  have hgood : ∀ q : Civ × Int, partsB s = some q → fmK q.2 (wkd q.1) = s → Good s q.1 q.2 := fun q h1 h2 => by
    obtain ⟨a1, a2⟩ := partsL_ok (show partsL _ = some (q.1, q.2) from h1)
    refine ⟨a1, h2, ?_⟩
    rcases a2 with e | e | e
    · exact .inl e
    · refine .inr (.inr ⟨e, ?_⟩)
      rw [e] at h2
      have h3 : fm1 (wkd q.1) = s := h2
      rw [← h3] at h1
      exact parts_fm1y q.1 a1 h1
    · exact .inr (.inl e)
  rcases hr with h | ⟨c, k, hg, h⟩
  · rw [h]
    unfold parseD
    cases hp : partsB s with
    | none => rfl
    | some q =>
      simp only
      by_cases e : fmK q.2 (wkd q.1) = s
      · have := rp_of_good (hgood q hp e)
        rw [h] at this
        exact absurd (show (10 : Int) = 0 from congrArg Prod.snd this) (by decide)
      · rw [if_neg e]
  · rw [h, pd_of_good hg]
end Go.Av
