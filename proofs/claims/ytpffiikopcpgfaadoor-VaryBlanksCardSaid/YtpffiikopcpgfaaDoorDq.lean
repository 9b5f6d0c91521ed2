/- Fields by name, parts, keys and matches, on both sides. -/
import Derived.Test.YtpffiikopcpgfaaDoorDp
set_option linter.all false
/-! part Q87 -/
namespace Go.Av
open Go.Proofs

set_option maxHeartbeats 1000000 in
theorem same42 (a b : List (List UInt8)) (ha : a.length ≤ 1000000000) (hb : b.length ≤ 1000000000) : PureC Tryd.prog 42 [.sl (a.map PC.str), .sl (b.map PC.str)] (.bool (decide (a = b))) := by
  refine pure_of_aw (ys := [_]) [] [] [] mixed Tryd.func42 rfl (by kernel_rfl) (by kernel_rfl) (by simp [Tryd.ntmps42]) rfl ?_
  obtain ⟨R, hR⟩ : ∃ R, R = decide (a = b) := ⟨_, rfl⟩
  rw [← hR]
  by_cases hl : a.length = b.length
  case neg =>
    have d : ((a.length : Int) != (b.length : Int)) = true := by simp; omega
    have e : R = false := by rw [hR]; simp; intro h; exact hl (by rw [h])
    subst e
    simp [d, hl, Tryd.results42]
  have d : ((a.length : Int) != (b.length : Int)) = false := by simp; omega
  simp [d, hl]
  refine aw_loop0 (fun k : Nat => k ≤ a.length ∧ a.take k = b.take k) (fun k => [(0, .p (.sl (a.map PC.str))), (1, .p (.sl (b.map PC.str))), (5, .p (.int k))]) (fun k => a.length - k) 0 (by simp) (leN_id (by simp)) ?_
  rintro k ⟨h1, h2⟩
  by_cases c : k < a.length
  · have c2 : k < b.length := by omega
    by_cases e : a[k] = b[k]
    · have e1 : (a[k] != b[k]) = false := by simpa using e
      simp [c, c2, e1]
      refine ⟨k + 1, ⟨by omega, ?_⟩, by omega, leN_id ?_⟩
      · rw [List.take_succ_eq_append_getElem c, List.take_succ_eq_append_getElem c2, h2, e]
      · simp [wrap64_id (n := (k : Int) + 1) (by omega) (by omega)]
    · have e1 : (a[k] != b[k]) = true := by simpa using e
      have e2 : R = false := by
        rw [hR]; simp; intro h; subst h; exact e rfl
      subst e2
      simp [c, c2, e1, Tryd.results42]
  · obtain rfl : k = a.length := by omega
    have e : R = true := by
      rw [hR]; rw [List.take_length, hl, List.take_length] at h2; simpa using h2
    subst e
    simp [Tryd.results42]
def fewB (vs : List (List UInt8)) : Bool := decide (vs.length ≤ 20) && vs.all fun v => decide (v.length ≤ 500)
set_option maxHeartbeats 1000000 in
theorem few39 (vs : List (List UInt8)) (hv : vs.length ≤ 9223372036854775807) : PureC Tryd.prog 39 [.sl (vs.map PC.str)] (.bool (fewB vs)) := by
  refine pure_of_aw (ys := [_]) [] [] [] mixed Tryd.func39 rfl (by kernel_rfl) (by kernel_rfl) (by simp [Tryd.ntmps39]) rfl ?_
  obtain ⟨R, hR⟩ : ∃ R, R = fewB vs := ⟨_, rfl⟩
  rw [← hR]
  unfold fewB at hR
  by_cases c : vs.length ≤ 20
  case neg =>
    have d : (20 : Int) < (vs.length : Int) := by omega
    rw [decide_eq_false c, Bool.false_and] at hR
    subst hR
    simp [d, show 20 < vs.length by omega, Tryd.results39]
  have d : ¬ (20 : Int) < (vs.length : Int) := by omega
  rw [decide_eq_true c, Bool.true_and] at hR
  simp [d, show ¬ 20 < vs.length by omega]
  refine aw_loop0 (fun k : Nat => k ≤ vs.length ∧ ∀ v ∈ vs.take k, v.length ≤ 500) (fun k => [(0, .p (.sl (vs.map PC.str))), (3, .p (.int k))]) (fun k => vs.length - k) 0 (by simp) (leN_id (by simp)) ?_
  rintro k ⟨h1, h2⟩
  by_cases ck : k < vs.length
  · by_cases cl : vs[k].length ≤ 500
    · have d2 : ¬ (500 : Int) < (vs[k].length : Int) := by omega
      simp [ck, d2, show ¬ 500 < vs[k].length by omega]
      refine ⟨k + 1, ⟨by omega, ?_⟩, by omega, leN_id ?_⟩
      · intro x hx
        rw [List.take_succ_eq_append_getElem ck] at hx
        rcases List.mem_append.1 hx with hx | hx
        · exact h2 x hx
        · simp at hx; subst hx; exact cl
      · simp [wrap64_id (n := (k : Int) + 1) (by omega) (by omega)]
    · have d2 : (500 : Int) < (vs[k].length : Int) := by omega
      have e : R = false := by
        rw [hR, List.all_eq_false]
        exact ⟨vs[k], List.getElem_mem ck, by simpa using cl⟩
      subst e
      simp [ck, d2, show 500 < vs[k].length by omega, Tryd.results39]
  obtain rfl : k = vs.length := by omega
  rw [List.take_length] at h2
  have e : R = true := by
    rw [hR, List.all_eq_true]
    exact fun v hv => by simpa using h2 v hv
  subst e
  simp [Tryd.results39]
abbrev Fd := List UInt8 × List UInt8
abbrev fdP (f : Fd) : PC := .agg false [.str f.1, .str f.2]
def shortB (fs : List Fd) : Bool := decide (fs.length ≤ 30) && fs.all fun f => decide (f.1.length ≤ 300) && decide (f.2.length ≤ 500)
set_option maxHeartbeats 1000000 in
theorem short43 (fs : List Fd) (hv : fs.length ≤ 9223372036854775807) : PureC Tryd.prog 43 [.sl (fs.map fdP)] (.bool (shortB fs)) := by
  refine pure_of_aw (ys := [_]) [] [] [] mixed Tryd.func43 rfl (by kernel_rfl) (by kernel_rfl) (by simp [Tryd.ntmps43]) rfl ?_
  obtain ⟨R, hR⟩ : ∃ R, R = shortB fs := ⟨_, rfl⟩
  rw [← hR]
  unfold shortB at hR
  by_cases c : fs.length ≤ 30
  case neg =>
    have d : (30 : Int) < (fs.length : Int) := by omega
    rw [decide_eq_false c, Bool.false_and] at hR
    subst hR
    simp [d, show 30 < fs.length by omega, Tryd.results43]
  have d : ¬ (30 : Int) < (fs.length : Int) := by omega
  rw [decide_eq_true c, Bool.true_and] at hR
  simp [d, show ¬ 30 < fs.length by omega]
  refine aw_loop0 (fun k : Nat => k ≤ fs.length ∧ ∀ f ∈ fs.take k, f.1.length ≤ 300 ∧ f.2.length ≤ 500) (fun k => [(0, .p (.sl (fs.map fdP))), (3, .p (.int k))]) (fun k => fs.length - k) 0 (by simp) (leN_id (by simp)) ?_
  rintro k ⟨h1, h2⟩
  by_cases ck : k < fs.length
  · by_cases cl : fs[k].1.length ≤ 300
    · have d2 : ¬ (300 : Int) < (fs[k].1.length : Int) := by omega
      by_cases cm : fs[k].2.length ≤ 500
      · have d3 : ¬ (500 : Int) < (fs[k].2.length : Int) := by omega
        simp [ck, d2, show ¬ 300 < fs[k].1.length by omega, d3, show ¬ 500 < fs[k].2.length by omega]
        refine ⟨k + 1, ⟨by omega, ?_⟩, by omega, leN_id ?_⟩
        · intro a b hx
          rw [List.take_succ_eq_append_getElem ck] at hx
          rcases List.mem_append.1 hx with hx | hx
          · exact h2 _ hx
          · simp at hx
            rw [← hx] at cl cm
            exact ⟨cl, cm⟩
        · simp [wrap64_id (n := (k : Int) + 1) (by omega) (by omega)]
      · have d3 : (500 : Int) < (fs[k].2.length : Int) := by omega
        have e : R = false := by
          rw [hR, List.all_eq_false]
          exact ⟨fs[k], List.getElem_mem ck, by simp; intro _; omega⟩
        subst e
        simp [ck, d2, show ¬ 300 < fs[k].1.length by omega, d3, show 500 < fs[k].2.length by omega, Tryd.results43]
    · have d2 : (300 : Int) < (fs[k].1.length : Int) := by omega
      have e : R = false := by
        rw [hR, List.all_eq_false]
        exact ⟨fs[k], List.getElem_mem ck, by simp; intro h; omega⟩
      subst e
      simp [ck, d2, show 300 < fs[k].1.length by omega, Tryd.results43]
  obtain rfl : k = fs.length := by omega
  rw [List.take_length] at h2
  have e : R = true := by
    rw [hR, List.all_eq_true]
    exact fun v hv => by simpa using h2 v hv
  subst e
  simp [Tryd.results43]
end Go.Av

/-! part Q88 -/
namespace Go.Av
open Go.Proofs

def FdOk (fs : List Fd) : Prop := fs.length ≤ 1000000 ∧ totB (fs.map (·.2)) ≤ 1000000 ∧ ∀ f ∈ fs, f.1.length ≤ 1000000
theorem totB_mem {vs : List (List UInt8)} {v : List UInt8} (h : v ∈ vs) : v.length ≤ totB vs := by
  induction vs with
  | nil => cases h
  | cons a vs ih =>
    rw [totB_cons]
    rcases List.mem_cons.1 h with rfl | h
    · omega
    · have := ih h; omega
def isB (n : List UInt8) (f : Fd) : Bool := lowB f.1 == lowB n
def getB (fs : List Fd) (n : List UInt8) : List (List UInt8) := (fs.filter (isB n)).map (·.2)
theorem is132 (f : Fd) (n : List UInt8) (hf : f.1.length ≤ 1000000) (hn : n.length ≤ 1000000) : PureC Tryd.prog 132 [fdP f, .str n] (.bool (isB n f)) := by
  refine pure_of_aw (ys := [_]) [] [] [] mixed Tryd.func132 rfl (by kernel_rfl) (by kernel_rfl) (by simp [Tryd.ntmps132]) rfl ?_
  obtain ⟨a, b⟩ := f
  simp only at hf
  simp [fdP, isB]
  refine pcall_of (lower76 a (by omega)) (by simp) ?_
  simp
  refine pcall_of (lower76 n (by omega)) (by simp) ?_
  simp [Tryd.results132]
theorem getB_snoc (fs : List Fd) (n : List UInt8) (f : Fd) : getB (fs ++ [f]) n = getB fs n ++ (if isB n f = true then [f.2] else []) := by
  unfold getB
  rw [List.filter_append, List.map_append]
  congr 1
  by_cases h : isB n f = true
  · rw [if_pos h, List.filter_cons_of_pos h]; rfl
  · rw [if_neg h, List.filter_cons_of_neg h]; rfl
theorem getB_len (fs : List Fd) (n : List UInt8) : (getB fs n).length ≤ fs.length := by
  unfold getB; rw [List.length_map]; exact List.length_filter_le _ _
theorem getB_tot (fs : List Fd) (n : List UInt8) : totB (getB fs n) ≤ totB (fs.map (·.2)) := by
  induction fs with
  | nil => simp [getB, totB]
  | cons f fs ih =>
    rw [List.map_cons, totB_cons]
    unfold getB at ih ⊢
    by_cases h : isB n f = true
    · rw [List.filter_cons_of_pos h, List.map_cons, totB_cons]; omega
    · rw [List.filter_cons_of_neg h]; omega
set_option maxHeartbeats 1000000 in
set_option maxRecDepth 100000 in
theorem get107 (fs : List Fd) (n : List UInt8) (hf : FdOk fs) (hn : n.length ≤ 1000000) : PureC Tryd.prog 107 [.sl (fs.map fdP), .str n] (.sl ((getB fs n).map PC.str)) := by
  obtain ⟨hf1, hf2, hf3⟩ := hf
  refine pure_of_aw (ys := [_]) [] [] [] mixed Tryd.func107 rfl (by kernel_rfl) (by kernel_rfl) (by simp [Tryd.ntmps107]) rfl ?_
  simp
  refine aw_loop (fun y : Nat × List (List UInt8) => y.1 ≤ fs.length ∧ y.2 = getB (fs.take y.1) n) (fun y => [(1, .p (.str n)), (5, .own 0 (y.2.map PC.str)), (8, .p (.sl (fs.map fdP))), (9, .p (.int fs.length)), (10, .p (.int y.1))])
    (fun y => ⟨[], [(0, 9, 1)], 1⟩) (fun y => fs.length - y.1) (0, []) ⟨by simp, by simp [getB]⟩ _ (le_own 5 9 1 [] (.inr ⟨rfl, by simp⟩)) (leN_id (by simp)) ?_
  rintro ⟨k, out⟩ ⟨h1, h2⟩
  simp only at h1 h2
  have hol : out.length ≤ k := by rw [h2]; exact Nat.le_trans (getB_len _ _) (by simp; omega)
  by_cases ck : k < fs.length
  case neg =>
    obtain rfl : k = fs.length := by omega
    rw [List.take_length] at h2
    subst h2
    simp [Tryd.results107]
  have hst : getB (fs.take (k + 1)) n = out ++ (if isB n fs[k] = true then [fs[k].2] else []) := by
    rw [List.take_succ_eq_append_getElem ck, getB_snoc, ← h2]
  have hfl := hf3 fs[k] (List.getElem_mem ck)
  simp [ck]
  obtain ⟨f, hfe⟩ : ∃ f, f = fs[k] := ⟨_, rfl⟩
  rw [← hfe] at hst hfl ⊢
  have his := is132 f n hfl hn
  obtain ⟨a, b⟩ := f
  simp only [fdP] at his
  simp
  refine pcall_of his (by simp) ?_
  cases hb : isB n (a, b) with
  | false =>
    rw [hb, if_neg (by simp), List.append_nil] at hst
    simp
    refine ⟨k + 1, out, ⟨by omega, hst.symm⟩, by omega, leN_id ?_⟩
    simp [wrap64_id (n := (k : Int) + 1) (by omega) (by omega)]
  | true =>
    rw [hb, if_pos rfl] at hst
    simp
    refine ⟨by omega, by omega, k + 1, out ++ [b], ⟨by omega, hst.symm⟩, by omega, leN_of [(0, 2)] ?_⟩
    simp [wrap64_id (n := (k : Int) + 1) (by omega) (by omega)]
set_option maxHeartbeats 1000000 in
set_option maxRecDepth 100000 in
theorem rget108 (fs : List Fd) (n : List UInt8) (hf : FdOk fs) (hn : n.length ≤ 1000000) : PureC Tryd.prog 108 [.sl (fs.map fdP), .str n] (.sl ((getB fs n).map PC.str)) := by
  obtain ⟨hf1, hf2, hf3⟩ := hf
  refine pure_of_aw (ys := [_]) [] [] [] mixed Tryd.func108 rfl (by kernel_rfl) (by kernel_rfl) (by simp [Tryd.ntmps108]) rfl ?_
  simp
  refine aw_loop (fun y : Nat × List (List UInt8) => y.1 ≤ fs.length ∧ y.2 = getB (fs.take y.1) n) (fun y => [(0, .p (.sl (fs.map fdP))), (1, .p (.str n)), (5, .own 0 (y.2.map PC.str)), (6, .p (.int y.1))])
    (fun y => ⟨[], [(0, 9, 1)], 1⟩) (fun y => fs.length - y.1) (0, []) ⟨by simp, by simp [getB]⟩ _ (le_own 5 9 1 [] (.inr ⟨rfl, by simp⟩)) (leN_id (by simp)) ?_
  rintro ⟨k, out⟩ ⟨h1, h2⟩
  simp only at h1 h2
  have hol : out.length ≤ k := by rw [h2]; exact Nat.le_trans (getB_len _ _) (by simp; omega)
  by_cases ck : k < fs.length
  case neg =>
    obtain rfl : k = fs.length := by omega
    rw [List.take_length] at h2
    subst h2
    simp [Tryd.results108]
  have hst : getB (fs.take (k + 1)) n = out ++ (if isB n fs[k] = true then [fs[k].2] else []) := by
    rw [List.take_succ_eq_append_getElem ck, getB_snoc, ← h2]
  have hfl := hf3 fs[k] (List.getElem_mem ck)
  simp [ck]
  refine pcall_of (rlower32 fs[k].1 hfl) (by simp) ?_
  simp
  refine pcall_of (rlower32 n hn) (by simp) ?_
  cases hb : isB n fs[k] with
  | false =>
    rw [hb, if_neg (by simp), List.append_nil] at hst
    unfold isB at hb
    simp [hb]
    refine ⟨k + 1, out, ⟨by omega, hst.symm⟩, by omega, leN_id ?_⟩
    simp [wrap64_id (n := (k : Int) + 1) (by omega) (by omega)]
  | true =>
    rw [hb, if_pos rfl] at hst
    unfold isB at hb
    simp [hb, ck]
    refine ⟨by omega, by omega, k + 1, out ++ [fs[k].2], ⟨by omega, hst.symm⟩, by omega, leN_of [(0, 1)] ?_⟩
    simp [wrap64_id (n := (k : Int) + 1) (by omega) (by omega)]
/-- what a request has of a name, and whether it has anything -/
def partB (n : List UInt8) (fs : List Fd) : List UInt8 × Bool := (Lib.join (splitB (getB fs n)) [44], !(getB fs n).isEmpty)
theorem join_len1 : ∀ (L : List (List UInt8)) (c : UInt8), (Lib.join L [c]).length ≤ totB L + L.length
  | [], c => by simp [Lib.join, totB, List.intercalate]
  | [p], c => by simp [Lib.join, totB, List.intercalate]
  | p :: q :: L, c => by
    have ih := join_len1 (q :: L) c
    have e : Lib.join (p :: q :: L) [c] = p ++ c :: Lib.join (q :: L) [c] := by simp [Lib.join, List.intercalate, List.intersperse]
    rw [e, totB_cons, List.length_append, List.length_cons, List.length_cons]
    omega
theorem spl1_tot (l : List UInt8) : totB (spl1 l) ≤ l.length := by
  have tl : ∀ l : List UInt8, (trimB l).length ≤ l.length := fun l => Nat.le_trans (trimL_le _) (trimR_le _)
  have pl : ∀ l : List UInt8, totB (pieceB l) ≤ l.length := fun l => by
    unfold pieceB; split
    · simp [totB]
    · have := tl l; simpa [totB] using this
  have ta : ∀ a b : List (List UInt8), totB (a ++ b) = totB a + totB b := fun a b => by simp [totB]
  have : ∀ (n : Nat) (l : List UInt8), l.length ≤ n → totB (spl1 l) ≤ l.length := by
    intro n
    induction n with
    | zero => intro l h; obtain rfl : l = [] := List.length_eq_zero_iff.1 (by omega); simp [spl1_nil, totB]
    | succ n ih =>
      intro l h
      by_cases e : l = []
      · subst e; simp [spl1_nil, totB]
      · rw [spl1_eq e, ta]
        have h0 : 0 < l.length := List.length_pos_iff.2 e
        have h1 := pl (l.take (comB false l))
        have h2 := ih (l.drop (comB false l + 1)) (by simp; omega)
        rw [List.length_take] at h1
        rw [List.length_drop] at h2
        omega
  exact this _ l (Nat.le_refl _)
theorem splitB_tot (vs : List (List UInt8)) : totB (splitB vs) ≤ totB vs := by
  induction vs with
  | nil => simp [splitB, totB]
  | cons v vs ih =>
    have e : splitB (v :: vs) = spl1 v ++ splitB vs := rfl
    have ta : ∀ a b : List (List UInt8), totB (a ++ b) = totB a + totB b := fun a b => by simp [totB]
    rw [e, ta, totB_cons]
    have := spl1_tot v
    omega
theorem part81 (n : List UInt8) (fs : List Fd) (hf : FdOk fs) (hn : n.length ≤ 1000000) : PureC Tryd.prog 81 [.str n, .sl (fs.map fdP)] (.tp [.str (partB n fs).1, .bool (partB n fs).2]) := by
  refine pure_of_aw (ys := [_, _]) [] [] [] mixed Tryd.func81 rfl (by kernel_rfl) (by kernel_rfl) (by simp [Tryd.ntmps81]) rfl ?_
  have hg := get107 fs n hf hn
  have h1 := getB_len fs n
  have h2 := getB_tot fs n
  obtain ⟨hf1, hf2, hf3⟩ := hf
  unfold partB
  generalize getB fs n = l at *
  have hs := split63 l (by omega) (by omega) (fun v hv => Nat.le_trans (totB_mem hv) (by omega))
  have h3 := splitB_len l
  have h4 := splitB_tot l
  generalize splitB l = ps at *
  have h5 := join_len1 ps 44
  have hj := join72 ps [44] (by omega) (by omega)
  simp
  refine pcall_of hg (by simp) ?_
  simp
  refine pcall_of hs (by simp) ?_
  simp
  refine pcall_of hj (by simp) ?_
  cases l with
  | nil => simp [Tryd.results81]
  | cons a l =>
    simp [Tryd.results81]
end Go.Av

/-! part Q89 -/
namespace Go.Av
open Go.Proofs

theorem join_cons (p q : List UInt8) (L : List (List UInt8)) (c : UInt8) : Lib.join (p :: q :: L) [c] = p ++ c :: Lib.join (q :: L) [c] := by simp [Lib.join, List.intercalate, List.intersperse]
theorem join_snoc : ∀ (L : List (List UInt8)) (w : List UInt8) (c : UInt8), L ≠ [] → Lib.join (L ++ [w]) [c] = Lib.join L [c] ++ c :: w
  | [], _, _, h => (h rfl).elim
  | [p], w, c, _ => by simp [Lib.join, List.intercalate, List.intersperse]
  | p :: q :: L, w, c, _ => by
    have := join_snoc (q :: L) w c (by simp)
    simp only [List.cons_append] at this ⊢
    rw [join_cons, this, join_cons]
    simp
set_option maxHeartbeats 1000000 in
set_option maxRecDepth 100000 in
theorem rpart83 (n : List UInt8) (fs : List Fd) (hf : FdOk fs) (hn : n.length ≤ 1000000) : PureC Tryd.prog 83 [.str n, .sl (fs.map fdP)] (.tp [.str (partB n fs).1, .bool (partB n fs).2]) := by
  refine pure_of_aw (ys := [_, _]) [] [] [] mixed Tryd.func83 rfl (by kernel_rfl) (by kernel_rfl) (by simp [Tryd.ntmps83]) rfl ?_
  have hg := rget108 fs n hf hn
  have h1 := getB_len fs n
  have h2 := getB_tot fs n
  obtain ⟨hf1, hf2, hf3⟩ := hf
  unfold partB
  generalize getB fs n = l at *
  have hs := rsplit49 l (by omega) (by omega) (fun v hv => Nat.le_trans (totB_mem hv) (by omega))
  have h3 := splitB_len l
  have h4 := splitB_tot l
  generalize splitB l = ps at *
  have hB : ∃ B : Bool, B = (!l.isEmpty) := ⟨_, rfl⟩
  obtain ⟨B, hB⟩ := hB
  rw [← hB]
  obtain ⟨J, hJ⟩ : ∃ J, J = Lib.join ps [44] := ⟨_, rfl⟩
  rw [← hJ]
  simp
  refine pcall_of hg (by simp) ?_
  simp
  refine pcall_of hs (by simp) ?_
  simp
  refine aw_loop0 (fun k : Nat => k ≤ ps.length) (fun k => [(6, .p (.sl (l.map PC.str))), (7, .p (.sl (ps.map PC.str))), (8, .p (.str (Lib.join (ps.take k) [44]))), (9, .p (.int k))]) (fun k => ps.length - k) 0 (by simp) (leN_id (by simp [Lib.join, List.intercalate])) ?_
  rintro k h
  have h5 := join_len1 (ps.take k) 44
  have ttk : totB (ps.take k) ≤ totB ps := by
    have ta : ∀ a b : List (List UInt8), totB (a ++ b) = totB a + totB b := fun a b => by simp [totB]
    have := ta (ps.take k) (ps.drop k)
    rw [List.take_append_drop] at this
    omega
  have hkl : (ps.take k).length ≤ k := by simp; omega
  by_cases ck : k < ps.length
  case neg =>
    obtain rfl : k = ps.length := by omega
    cases l with
    | nil => simp at hB; subst hB; simp [Tryd.results83, hJ]
    | cons a l => simp at hB; subst hB; simp [Tryd.results83, hJ]
  have hpl := totB_mem (List.getElem_mem ck)
  by_cases k0 : k = 0
  · subst k0
    have e0 : Lib.join ([] : List (List UInt8)) [44] = [] := by simp [Lib.join, List.intercalate]
    have e1 : Lib.join (ps.take 1) [44] = ps[0] := by
      rw [List.take_succ_eq_append_getElem ck]; simp [Lib.join, List.intercalate]
    simp [ck, e0]
    refine ⟨by omega, 1, by omega, by omega, leN_id ?_⟩
    have w1 : IntKind.i64.wrap 1 = 1 := rfl
    simp [w1, e1]
  · have d0 : (0 : Int) < (k : Int) := by omega
    have e1 : Lib.join (ps.take (k + 1)) [44] = Lib.join (ps.take k) [44] ++ 44 :: ps[k] := by
      rw [List.take_succ_eq_append_getElem ck, join_snoc _ _ _ (by intro e; have := congrArg List.length e; rw [List.length_take, List.length_nil] at this; omega)]
    simp [ck, d0, show 0 < k by omega]
    refine ⟨by omega, by omega, k + 1, by omega, by omega, leN_id ?_⟩
    simp [wrap64_id (n := (k : Int) + 1) (by omega) (by omega), e1]
end Go.Av

/-! part Q90 -/
namespace Go.Av
open Go.Proofs

theorem tw_eq {α : Type} {p : α → Bool} {l : List α} {k : Nat} (h1 : k ≤ l.length) (h2 : ∀ x ∈ l.take k, p x = true) (h3 : ∀ h : k < l.length, p l[k] = false) : (l.takeWhile p).length = k := by
  induction l generalizing k with
  | nil => simp at h1; simp [h1]
  | cons a l ih =>
    cases k with
    | zero =>
      have := h3 (by simp)
      simp at this
      rw [List.takeWhile_cons, if_neg (by simp [this])]; rfl
    | succ k =>
      have ha := h2 a (by simp)
      rw [List.takeWhile_cons, if_pos ha, List.length_cons]
      rw [ih (k := k) (by simpa using h1) (fun x hx => h2 x (by simp [hx])) (fun h => by have := h3 (by simpa using h); simpa using this)]
/-- where the first is that q takes, or -1 -/
def idxQ (q : List UInt8 → Bool) (ks : List (List UInt8)) : Int := if (ks.takeWhile fun s => !q s).length < ks.length then ((ks.takeWhile fun s => !q s).length : Nat) else -1
set_option maxHeartbeats 1000000 in
theorem index109 {g : FuncId} {caps : List PC} (q : List UInt8 → Bool) (ks : List (List UInt8)) (hk : ks.length ≤ 1000000000) (h : ∀ s ∈ ks, PureC Tryd.prog g (.str s :: caps) (.bool (q s))) :
    PureC Tryd.prog 109 [.sl (ks.map PC.str), .fn (.func g) caps] (.int (idxQ q ks)) := by
  refine pure_of_aw (ys := [_]) [] [] [] mixed Tryd.func109 rfl (by kernel_rfl) (by kernel_rfl) (by simp [Tryd.ntmps109]) rfl ?_
  obtain ⟨R, hR⟩ : ∃ R, R = idxQ q ks := ⟨_, rfl⟩
  rw [← hR]
  unfold idxQ at hR
  simp
  refine aw_loop0 (fun k : Nat => k ≤ ks.length ∧ ∀ x ∈ ks.take k, (!q x) = true) (fun k => [(0, .p (.sl (ks.map PC.str))), (1, .p (.fn (.func g) caps)), (7, .p (.int ks.length)), (8, .p (.int k))]) (fun k => ks.length - k) 0 (by simp) (leN_id (by simp)) ?_
  rintro k ⟨h1, h2⟩
  by_cases c1 : k < ks.length
  · simp [c1]
    refine pcall_of (h ks[k] (by simp)) (by simp) ?_
    by_cases c2 : q ks[k] = true
    · have e := tw_eq (p := fun s => !q s) h1 h2 (fun _ => by simpa using c2)
      rw [e, if_pos c1] at hR
      subst hR
      simp [c2, Tryd.results109]
    · simp [c2]
      refine ⟨k + 1, ⟨by omega, ?_⟩, by omega, leN_id ?_⟩
      · rw [List.take_succ_eq_append_getElem c1]; simp only [List.mem_append, List.mem_singleton]; rintro x (hx | rfl); (have := h2 x hx; simpa using this); simpa using c2
      · simp [wrap64_id (n := (k : Int) + 1) (by omega) (by omega)]
  · have e := tw_eq (p := fun s => !q s) h1 h2 (fun h => absurd h c1)
    rw [e, if_neg c1] at hR
    subst hR
    simp [c1, Tryd.results109]
theorem idxQ_any (q : List UInt8 → Bool) (ks : List (List UInt8)) : decide (0 ≤ idxQ q ks) = ks.any q := by
  induction ks with
  | nil => rfl
  | cons a ks ih =>
    unfold idxQ at ih ⊢
    rw [List.any_cons]
    cases h : q a with
    | true =>
      have e : ((a :: ks).takeWhile fun s => !q s) = [] := by simp [h]
      rw [e]; simp
    | false =>
      have e : ((a :: ks).takeWhile fun s => !q s) = a :: ks.takeWhile fun s => !q s := by simp [h]
      rw [e, Bool.false_or, ← ih, List.length_cons, List.length_cons]
      by_cases c : (ks.takeWhile fun s => !q s).length < ks.length
      · rw [if_pos c, if_pos (by omega), decide_eq_true (by omega), decide_eq_true (by omega)]
      · rw [if_neg c, if_neg (by omega)]
theorem contains84 {g : FuncId} {caps : List PC} (q : List UInt8 → Bool) (ks : List (List UInt8)) (hk : ks.length ≤ 1000000000) (h : ∀ s ∈ ks, PureC Tryd.prog g (.str s :: caps) (.bool (q s))) :
    PureC Tryd.prog 84 [.sl (ks.map PC.str), .fn (.func g) caps] (.bool (ks.any q)) := by
  refine pure_of_aw (ys := [_]) [] [] [] mixed Tryd.func84 rfl (by kernel_rfl) (by kernel_rfl) (by simp [Tryd.ntmps84]) rfl ?_
  rw [← idxQ_any]
  simp
  refine pcall_of (index109 q ks hk h) (by simp) ?_
  simp [Tryd.results84]
def NmOk (ns : List (List UInt8)) : Prop := ns.length ≤ 1000000 ∧ ∀ n ∈ ns, n.length ≤ 1000000
def matchB (ns : List (List UInt8)) (a b : List Fd) : Bool := ns.all fun n => partB n a == partB n b
theorem partB_len (n : List UInt8) {fs : List Fd} (hf : FdOk fs) : (partB n fs).1.length ≤ 2000000 := by
  obtain ⟨hf1, hf2, _⟩ := hf
  have h2 := getB_tot fs n
  have h3 := splitB_len (getB fs n)
  have h4 := splitB_tot (getB fs n)
  have h5 := join_len1 (splitB (getB fs n)) 44
  unfold partB
  simp only
  omega
theorem match85 (n : List UInt8) (a b : List Fd) (ha : FdOk a) (hb : FdOk b) (hn : n.length ≤ 1000000) : PureC Tryd.prog 85 [.str n, .ref (.sl (a.map fdP)), .ref (.sl (b.map fdP))] (.bool (!(partB n a == partB n b))) := by
  refine pure_of_aw (ys := [_]) [] [] [] mixed Tryd.func85 rfl (by kernel_rfl) (by kernel_rfl) (by simp [Tryd.ntmps85]) rfl ?_
  have h1 := part81 n a ha hn
  have h2 := part81 n b hb hn
  generalize partB n a = x at *
  generalize partB n b = y at *
  obtain ⟨s, p⟩ := x
  obtain ⟨t, q⟩ := y
  simp only at h1 h2
  simp
  refine pcall_of h1 (by simp) ?_
  simp
  refine pcall_of h2 (by simp) ?_
  by_cases hst : s = t
  · subst hst
    cases p <;> cases q <;> simp [Tryd.results85]
  · have d1 : (s != t) = true := by simpa using hst
    have d2 : (s == t) = false := by simpa using hst
    cases p <;> cases q <;> simp [Tryd.results85, d1, d2, hst]
theorem match46 (ns : List (List UInt8)) (a b : List Fd) (ha : FdOk a) (hb : FdOk b) (hn : NmOk ns) : PureC Tryd.prog 46 [.sl (ns.map PC.str), .sl (a.map fdP), .sl (b.map fdP)] (.bool (matchB ns a b)) := by
  refine pure_of_aw (ys := [_]) [] [] [] mixed Tryd.func46 rfl (by kernel_rfl) (by kernel_rfl) (by simp [Tryd.ntmps46]) rfl ?_
  have h := contains84 (g := 85) (caps := [.ref (.sl (a.map fdP)), .ref (.sl (b.map fdP))]) (fun n => !(partB n a == partB n b)) ns (by have := hn.1; omega) (fun n hm => match85 n a b ha hb (hn.2 n hm))
  have e : matchB ns a b = !(ns.any fun n => !(partB n a == partB n b)) := by
    unfold matchB; rw [List.all_eq_not_any_not]
  rw [e]
  generalize (ns.any fun n => !(partB n a == partB n b)) = R at *
  simp
  refine pcall_of h (by simp) ?_
  simp [Tryd.results46]
end Go.Av

/-! part Q91 -/
namespace Go.Av
open Go.Proofs

def keyP (fs : List Fd) (n : List UInt8) : List UInt8 := lowB n ++ ((if (partB n fs).2 = true then 58 :: (partB n fs).1 else []) ++ [10])
def keyB (ns : List (List UInt8)) (fs : List Fd) : List UInt8 := ns.flatMap (keyP fs)
theorem keyP_len {n : List UInt8} {fs : List Fd} (hf : FdOk fs) (hn : n.length ≤ 1000000) : (keyP fs n).length ≤ 3000002 := by
  have := partB_len n hf
  unfold keyP
  rw [List.length_append, lowB_len, List.length_append]
  split <;> simp <;> omega
theorem keyB_len {fs : List Fd} (hf : FdOk fs) : ∀ (ns : List (List UInt8)), (∀ n ∈ ns, n.length ≤ 1000000) → (keyB ns fs).length ≤ ns.length * 3000002
  | [], _ => by simp [keyB]
  | n :: ns, h => by
    have h1 := keyP_len (n := n) hf (h n (by simp))
    have h2 := keyB_len hf ns (fun m hm => h m (by simp [hm]))
    have e : keyB (n :: ns) fs = keyP fs n ++ keyB ns fs := rfl
    rw [e, List.length_append, List.length_cons, Nat.add_mul, Nat.one_mul]
    omega
theorem keyB_snoc (ns : List (List UInt8)) (n : List UInt8) (fs : List Fd) : keyB (ns ++ [n]) fs = keyB ns fs ++ keyP fs n := by simp [keyB]
set_option maxHeartbeats 1000000 in
set_option maxRecDepth 100000 in
theorem rkey45 (ns : List (List UInt8)) (fs : List Fd) (hn : NmOk ns) (hf : FdOk fs) : PureC Tryd.prog 45 [.sl (ns.map PC.str), .sl (fs.map fdP)] (.str (keyB ns fs)) := by
  refine pure_of_aw (ys := [_]) [] [] [] mixed Tryd.func45 rfl (by kernel_rfl) (by kernel_rfl) (by simp [Tryd.ntmps45]) rfl ?_
  obtain ⟨R, hR⟩ : ∃ R, R = keyB ns fs := ⟨_, rfl⟩
  rw [← hR]
  simp
  refine aw_loop0 (fun y : Nat × List UInt8 => y.1 ≤ ns.length ∧ y.2 = keyB (ns.take y.1) fs) (fun y => [(0, .p (.sl (ns.map PC.str))), (1, .p (.sl (fs.map fdP))), (5, .p (.str y.2)), (6, .p (.int y.1))]) (fun y => ns.length - y.1) (0, []) ⟨by simp, by simp [keyB]⟩ (leN_id (by simp)) ?_
  rintro ⟨k, s⟩ ⟨h1, h2⟩
  simp only at h1 h2
  obtain ⟨hn1, hn2⟩ := hn
  by_cases ck : k < ns.length
  case neg =>
    obtain rfl : k = ns.length := by omega
    rw [List.take_length] at h2
    subst h2
    subst hR
    simp [Tryd.results45]
  have hsl : s.length ≤ k * 3000002 := by
    rw [h2]
    refine Nat.le_trans (keyB_len hf (ns.take k) (fun n hm => hn2 n (List.mem_of_mem_take hm))) ?_
    rw [List.length_take]
    exact Nat.mul_le_mul_right _ (Nat.min_le_left _ _)
  have hk2 : k * 3000002 ≤ 1000000 * 3000002 := Nat.mul_le_mul_right _ (by omega)
  have hst : keyB (ns.take (k + 1)) fs = s ++ keyP fs ns[k] := by
    rw [List.take_succ_eq_append_getElem ck, keyB_snoc, ← h2]
  have hnl := hn2 ns[k] (List.getElem_mem ck)
  have hlow := lowB_len ns[k]
  have hp := rpart83 ns[k] fs hf hnl
  have hpl := partB_len ns[k] hf
  unfold keyP at hst
  simp [ck]
  refine pcall_of (rlower32 ns[k] hnl) (by simp) ?_
  simp [ck]
  refine ⟨by omega, ?_⟩
  refine pcall_of hp (by simp) ?_
  generalize partB ns[k] fs = x at *
  obtain ⟨t, b⟩ := x
  simp only at hpl hst
  cases b with
  | false =>
    simp
    rw [if_neg (by simp)] at hst
    refine ⟨by omega, k + 1, s ++ (lowB ns[k] ++ [10]), ⟨by omega, by rw [hst]; simp⟩, by omega, leN_id ?_⟩
    simp [wrap64_id (n := (k : Int) + 1) (by omega) (by omega)]
  | true =>
    simp
    rw [if_pos rfl] at hst
    refine ⟨by omega, by omega, by omega, k + 1, s ++ (lowB ns[k] ++ 58 :: (t ++ [10])), ⟨by omega, by rw [hst]; simp⟩, by omega, leN_id ?_⟩
    simp [wrap64_id (n := (k : Int) + 1) (by omega) (by omega)]
set_option maxHeartbeats 1000000 in
set_option maxRecDepth 100000 in
theorem rmatch47 (ns : List (List UInt8)) (a b : List Fd) (hn : NmOk ns) (ha : FdOk a) (hb : FdOk b) : PureC Tryd.prog 47 [.sl (ns.map PC.str), .sl (a.map fdP), .sl (b.map fdP)] (.bool (matchB ns a b)) := by
  refine pure_of_aw (ys := [_]) [] [] [] mixed Tryd.func47 rfl (by kernel_rfl) (by kernel_rfl) (by simp [Tryd.ntmps47]) rfl ?_
  obtain ⟨R, hR⟩ : ∃ R, R = matchB ns a b := ⟨_, rfl⟩
  rw [← hR]
  unfold matchB at hR
  simp
  refine aw_loop0 (fun k : Nat => k ≤ ns.length ∧ ∀ n ∈ ns.take k, (partB n a == partB n b) = true) (fun k => [(0, .p (.sl (ns.map PC.str))), (1, .p (.sl (a.map fdP))), (2, .p (.sl (b.map fdP))), (7, .p (.int k))]) (fun k => ns.length - k) 0 (by simp) (leN_id (by simp)) ?_
  rintro k ⟨h1, h2⟩
  obtain ⟨hn1, hn2⟩ := hn
  by_cases ck : k < ns.length
  case neg =>
    obtain rfl : k = ns.length := by omega
    rw [List.take_length] at h2
    have e : R = true := by rw [hR, List.all_eq_true]; exact h2
    subst e
    simp [Tryd.results47]
  have hnl := hn2 ns[k] (List.getElem_mem ck)
  have p1 := rpart83 ns[k] a ha hnl
  have p2 := rpart83 ns[k] b hb hnl
  have hno : (partB ns[k] a == partB ns[k] b) = false → R = false := fun h => by
    rw [hR, List.all_eq_false]
    exact ⟨ns[k], List.getElem_mem ck, by rw [h]; simp⟩
  have hyes : (partB ns[k] a == partB ns[k] b) = true → ∀ n ∈ ns.take (k + 1), (partB n a == partB n b) = true := fun h n hm => by
    rw [List.take_succ_eq_append_getElem ck] at hm
    rcases List.mem_append.1 hm with hm | hm
    · exact h2 n hm
    · simp at hm; subst hm; exact h
  simp [ck]
  refine pcall_of p1 (by simp) ?_
  simp [ck]
  refine pcall_of p2 (by simp) ?_
  generalize partB ns[k] a = x at *
  generalize partB ns[k] b = y at *
  obtain ⟨s, p⟩ := x
  obtain ⟨t, q⟩ := y
  by_cases hpq : p = q
  · subst hpq
    by_cases hst : s = t
    · subst hst
      simp
      refine ⟨k + 1, ⟨by omega, fun n hm => by simpa using hyes (by simp) n hm⟩, by omega, leN_id ?_⟩
      simp [wrap64_id (n := (k : Int) + 1) (by omega) (by omega)]
    · have e := hno (by simpa using hst)
      subst e
      have d1 : (s != t) = true := by simpa using hst
      simp [d1, Tryd.results47]
  · have e := hno (by simp [hpq])
    subst e
    have d1 : (p != q) = true := by simpa using hpq
    simp [d1, Tryd.results47]
end Go.Av
