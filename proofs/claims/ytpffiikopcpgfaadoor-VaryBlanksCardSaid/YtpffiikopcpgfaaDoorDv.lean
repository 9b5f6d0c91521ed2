/- Odd fields that tell the same; VaryBlanks computes true. -/
import Derived.Test.YtpffiikopcpgfaaDoorDu
set_option linter.all false
/-! part Q105 -/
namespace Go.Av
open Go.Proofs

/-- a piece's field, with blanks and in great letters -/
def mkO (f : Fd) (p : List UInt8) : Fd := (upB f.1, 32 :: 9 :: (p ++ [32, 44]))
def oddF (f : Fd) : List Fd := if spl1 f.2 = [] then [f] else (spl1 f.2).map (mkO f)
def oddL (fs : List Fd) : List Fd := fs.flatMap oddF
theorem oddL_snoc (fs : List Fd) (f : Fd) : oddL (fs ++ [f]) = oddL fs ++ oddF f := by simp [oddL]
def noQ (l : List UInt8) : Prop := ∀ c ∈ l, c ≠ 34
/-- what stands ahead of the first comma holds none, if it holds no quotation mark -/
theorem comB_none : ∀ (n : Nat) (l : List UInt8), l.length ≤ n → noQ (l.take (comB false l)) → ∀ c ∈ l.take (comB false l), c ≠ 44
  | 0, l, h, _ => by obtain rfl : l = [] := List.length_eq_zero_iff.1 (by omega); simp
  | n + 1, l, h, hq => by
    cases l with
    | nil => simp
    | cons a l =>
      rw [comB_cons] at hq ⊢
      by_cases h1 : a = 34
      · subst h1
        rw [if_pos rfl] at hq
        exact absurd rfl (hq 34 (by simp))
      · rw [if_neg h1, if_neg (by simp)] at hq ⊢
        by_cases h2 : a = 44
        · rw [if_pos ⟨h2, rfl⟩]; simp
        · rw [if_neg (by simp [h2])] at hq ⊢
          rw [List.take_succ_cons] at hq ⊢
          have ih := comB_none n l (by simpa using h) (fun c hc => hq c (by simp [hc]))
          intro c hc
          rcases List.mem_cons.1 hc with rfl | hc
          · exact h2
          · exact ih c hc
theorem trimB_len_lt (l : List UInt8) : (trimB l).length ≤ l.length := Nat.le_trans (trimL_le _) (trimR_le _)
theorem trimB_idem (l : List UInt8) : trimB (trimB l) = trimB l := by
  have hL : ∀ m : List UInt8, trimL (trimL m) = trimL m := fun m => by
    unfold trimL
    induction m with
    | nil => rfl
    | cons a m ih =>
      rw [List.dropWhile_cons]
      split
      · exact ih
      · rename_i h; rw [List.dropWhile_cons, if_neg h]
  have hR : ∀ m : List UInt8, trimR (trimR m) = trimR m := fun m => by
    have := hL m.reverse
    unfold trimL at this
    unfold trimR
    rw [List.reverse_reverse, this]
  have e1 : trimB (trimB l) = trimL (trimR (trimB l)) := rfl
  rw [e1, ← trim_comm l, hR, trim_comm l]
  unfold trimB
  exact hL _
theorem trimB_or {l : List UInt8} {c : UInt8} (h : c ∈ l) : c ∈ trimB l ∨ blO c = true := by
  have hL : ∀ {m : List UInt8}, c ∈ m → c ∈ trimL m ∨ blO c = true := fun {m} hm => by
    unfold trimL
    rw [← List.takeWhile_append_dropWhile (p := blO) (l := m)] at hm
    rcases List.mem_append.1 hm with hm | hm
    · exact .inr (List.all_eq_true.1 (List.all_takeWhile (p := blO) (l := m)) c hm)
    · exact .inl hm
  have hR : c ∈ trimR l ∨ blO c = true := by
    have := hL (m := l.reverse) (by simpa using h)
    unfold trimL at this
    unfold trimR
    simpa using this
  rcases hR with h | h
  · exact hL h
  · exact .inr h
/-- a piece without quotation marks: no comma, not nothing, no blank at its ends -/
theorem piece_spec {l p : List UInt8} (h : p ∈ spl1 l) : p ≠ [] ∧ trimB p = p ∧ (noQ p → ∀ c ∈ p, c ≠ 44) := by
  have : ∀ (n : Nat) (l : List UInt8), l.length ≤ n → ∀ p ∈ spl1 l, p ≠ [] ∧ trimB p = p ∧ (noQ p → ∀ c ∈ p, c ≠ 44) := by
    intro n
    induction n with
    | zero => intro l h p hp; obtain rfl : l = [] := List.length_eq_zero_iff.1 (by omega); simp [spl1_nil] at hp
    | succ n ih =>
      intro l h p hp
      by_cases e : l = []
      · subst e; simp [spl1_nil] at hp
      · have h0 : 0 < l.length := List.length_pos_iff.2 e
        rw [spl1_eq e] at hp
        rcases List.mem_append.1 hp with hp | hp
        · unfold pieceB at hp
          split at hp
          · cases hp
          · rename_i hne
            simp at hp; subst hp
            refine ⟨hne, trimB_idem _, fun hq => ?_⟩
            have h2 := comB_none _ l (Nat.le_refl _) (fun c hc e1 => by
              rcases trimB_or hc with h | h
              · exact hq c h e1
              · rw [e1] at h; exact absurd h (by decide))
            exact fun c hc => h2 c (trimB_mem hc)
        · exact ih _ (by simp; omega) p hp
  exact this _ l (Nat.le_refl _) p h
theorem spl1_mk {p : List UInt8} (h0 : p ≠ []) (h1 : trimB p = p) (hq : noQ p) (hc : ∀ c ∈ p, c ≠ 44) : spl1 (32 :: 9 :: (p ++ [32, 44])) = [p] := by
  have e : 32 :: 9 :: (p ++ [32, 44]) = (32 :: 9 :: (p ++ [32])) ++ 44 :: [] := by simp
  have hcm : comB false ((32 :: 9 :: (p ++ [32])) ++ 44 :: []) = (32 :: 9 :: (p ++ [32])).length := by
    have key : ∀ (m : List UInt8), (∀ c ∈ m, c ≠ 34 ∧ c ≠ 44) → comB false (m ++ 44 :: []) = m.length := by
      intro m
      induction m with
      | nil => intro _; exact comB_cm []
      | cons a m ih =>
        intro h
        obtain ⟨a1, a2⟩ := h a (by simp)
        rw [List.cons_append, comB_cons, if_neg a1, if_neg (by simp), if_neg (by simp [a2]), ih fun c hc => h c (by simp [hc]), List.length_cons]
    refine key _ fun c hm => ?_
    rcases List.mem_cons.1 hm with rfl | hm
    · exact ⟨by decide, by decide⟩
    · rcases List.mem_cons.1 hm with rfl | hm
      · exact ⟨by decide, by decide⟩
      · rcases List.mem_append.1 hm with hm | hm
        · exact ⟨hq c hm, hc c hm⟩
        · simp at hm; subst hm; exact ⟨by decide, by decide⟩
  rw [e, spl1_cm hcm, spl1_nil, List.append_nil]
  have ht : trimB (32 :: 9 :: (p ++ [32])) = p := by
    have e1 : trimB (32 :: 9 :: (p ++ [32])) = trimL (trimR ((32 :: 9 :: p) ++ [32])) := rfl
    rw [e1, trimR_snoc, if_pos (by decide)]
    have e2 : trimL (trimR (32 :: 9 :: p)) = trimB (32 :: 9 :: p) := rfl
    rw [e2, ← trim_comm]
    have e3 : trimL (32 :: 9 :: p) = trimL p := rfl
    rw [e3, trim_comm, h1]
  unfold pieceB
  rw [ht, if_neg h0]
theorem splitB_app (a b : List (List UInt8)) : splitB (a ++ b) = splitB a ++ splitB b := by simp [splitB]
theorem getB_app (a b : List Fd) (n : List UInt8) : getB (a ++ b) n = getB a n ++ getB b n := by simp [getB]
theorem getB_cons (f : Fd) (fs : List Fd) (n : List UInt8) : getB (f :: fs) n = (if isB n f = true then [f.2] else []) ++ getB fs n := by
  unfold getB
  by_cases h : isB n f = true
  · rw [if_pos h, List.filter_cons_of_pos h]; rfl
  · rw [if_neg h, List.filter_cons_of_neg h]; rfl
theorem isB_mk (n : List UInt8) (f : Fd) (p : List UInt8) : isB n (mkO f p) = isB n f := by
  unfold isB mkO; simp only; rw [lowB_up]
theorem getB_mk (n : List UInt8) (f : Fd) : ∀ L : List (List UInt8), getB (L.map (mkO f)) n = if isB n f = true then L.map (fun p => 32 :: 9 :: (p ++ [32, 44])) else []
  | [] => by simp [getB]
  | p :: L => by
    rw [List.map_cons, getB_cons, isB_mk, getB_mk n f L]
    split <;> simp [mkO]
theorem splitB_mk {v : List UInt8} (hq : ∀ p ∈ spl1 v, noQ p) : splitB ((spl1 v).map fun p => 32 :: 9 :: (p ++ [32, 44])) = spl1 v := by
  have : ∀ L : List (List UInt8), (∀ p ∈ L, p ≠ [] ∧ trimB p = p ∧ noQ p ∧ ∀ c ∈ p, c ≠ 44) → splitB (L.map fun p => 32 :: 9 :: (p ++ [32, 44])) = L := by
    intro L
    induction L with
    | nil => intro _; rfl
    | cons p L ih =>
      intro h
      obtain ⟨a, b, c, d⟩ := h p (by simp)
      have e : splitB ((p :: L).map fun p => 32 :: 9 :: (p ++ [32, 44])) = spl1 (32 :: 9 :: (p ++ [32, 44])) ++ splitB (L.map fun p => 32 :: 9 :: (p ++ [32, 44])) := rfl
      rw [e, spl1_mk a b c d, ih fun q hq => h q (by simp [hq])]; rfl
  refine this _ fun p hp => ?_
  obtain ⟨a, b, c⟩ := piece_spec hp
  exact ⟨a, b, hq p hp, c (hq p hp)⟩
def noQs (fs : List Fd) : Prop := ∀ f ∈ fs, ∀ p ∈ spl1 f.2, noQ p
theorem odd_part {fs : List Fd} (h : noQs fs) (n : List UInt8) : splitB (getB (oddL fs) n) = splitB (getB fs n) ∧ ((getB (oddL fs) n).isEmpty = (getB fs n).isEmpty) := by
  induction fs with
  | nil => exact ⟨rfl, rfl⟩
  | cons f fs ih =>
    obtain ⟨i1, i2⟩ := ih fun g hg => h g (by simp [hg])
    have e : oddL (f :: fs) = oddF f ++ oddL fs := rfl
    have hq := h f (by simp)
    rw [e, getB_app, getB_cons, splitB_app, splitB_app, i1]
    have key : splitB (getB (oddF f) n) = splitB (if isB n f = true then [f.2] else []) ∧ (getB (oddF f) n).isEmpty = (if isB n f = true then [f.2] else []).isEmpty := by
      unfold oddF
      by_cases h0 : spl1 f.2 = []
      · rw [if_pos h0, getB_cons]
        simp [getB]
      · rw [if_neg h0, getB_mk]
        by_cases hx : isB n f = true
        · rw [if_pos hx, if_pos hx, splitB_mk hq]
          refine ⟨by simp [splitB], ?_⟩
          cases hs : spl1 f.2 with
          | nil => exact (h0 hs).elim
          | cons a l => rfl
        · rw [if_neg hx, if_neg hx]; exact ⟨rfl, rfl⟩
    obtain ⟨k1, k2⟩ := key
    refine ⟨by rw [k1], ?_⟩
    have ea : ∀ a b : List (List UInt8), (a ++ b).isEmpty = (a.isEmpty && b.isEmpty) := fun a b => by cases a <;> simp
    rw [ea, ea, k2, i2]
theorem odd_match {fs : List Fd} (h : noQs fs) (ns : List (List UInt8)) : matchB ns fs (oddL fs) = true := by
  unfold matchB
  rw [List.all_eq_true]
  intro n _
  obtain ⟨a, b⟩ := odd_part h n
  unfold partB
  rw [a, b]; simp
theorem odd_more {fs : List Fd} (h : noQs fs) {ns : List (List UInt8)} {m : Fd} (hm : ∀ n ∈ ns, isB n m = false) : matchB ns fs (oddL fs ++ [m]) = true := by
  unfold matchB
  rw [List.all_eq_true]
  intro n hn
  obtain ⟨a, b⟩ := odd_part h n
  have e : getB (oddL fs ++ [m]) n = getB (oddL fs) n := by
    rw [getB_snoc, if_neg (by rw [hm n hn]; simp), List.append_nil]
  unfold partB
  rw [e, a, b]; simp
end Go.Av

/-! part Q106 -/
namespace Go.Av
open Go.Proofs

theorem totB_app (a b : List (List UInt8)) : totB (a ++ b) = totB a + totB b := by simp [totB]
theorem totB_mk (f : Fd) : ∀ L : List (List UInt8), totB ((L.map (mkO f)).map (·.2)) = totB L + 4 * L.length
  | [] => by simp [totB]
  | p :: L => by
    rw [List.map_cons, List.map_cons, totB_cons, totB_mk f L, totB_cons, List.length_cons]
    simp [mkO]; omega
theorem oddF_ok (f : Fd) : (oddF f).length ≤ 1 + f.2.length ∧ totB ((oddF f).map (·.2)) ≤ 5 * f.2.length ∧ ∀ g ∈ oddF f, g.1.length ≤ f.1.length := by
  unfold oddF
  by_cases h : spl1 f.2 = []
  · rw [if_pos h]
    refine ⟨by simp, by simp [totB]; omega, fun g hg => by simp at hg; subst hg; exact Nat.le_refl _⟩
  · rw [if_neg h]
    have h1 := spl1_len f.2
    have h2 := spl1_tot f.2
    refine ⟨by rw [List.length_map]; omega, by rw [totB_mk]; omega, fun g hg => ?_⟩
    obtain ⟨p, _, rfl⟩ := List.mem_map.1 hg
    simp [mkO, upB]
theorem oddL_ok : ∀ {fs : List Fd}, (∀ f ∈ fs, f.1.length ≤ 300 ∧ f.2.length ≤ 500) → (oddL fs).length ≤ fs.length * 501 ∧ totB ((oddL fs).map (·.2)) ≤ fs.length * 2500 ∧ ∀ g ∈ oddL fs, g.1.length ≤ 300
  | [], _ => by simp [oddL, totB]
  | f :: fs, h => by
    obtain ⟨a1, a2, a3⟩ := oddF_ok f
    obtain ⟨b1, b2, b3⟩ := oddL_ok (fs := fs) fun g hg => h g (by simp [hg])
    have hf := h f (by simp)
    have e : oddL (f :: fs) = oddF f ++ oddL fs := rfl
    rw [e, List.length_append, List.map_append, totB_app, List.length_cons, Nat.add_mul, Nat.add_mul]
    refine ⟨by omega, by omega, fun g hg => ?_⟩
    rcases List.mem_append.1 hg with hg | hg
    · exact Nat.le_trans (a3 g hg) hf.1
    · exact b3 g hg
theorem odd_fd {fs : List Fd} (hs : shortB fs = true) : FdOk (oddL fs) := by
  obtain ⟨h1, h2, h3⟩ := short_ok hs
  obtain ⟨a, b, c⟩ := oddL_ok h3
  exact ⟨by omega, by omega, fun f hf => Nat.le_trans (c f hf) (by omega)⟩
theorem odd_fdm {fs : List Fd} (hs : shortB fs = true) {m : Fd} (h1 : m.1.length ≤ 300) (h2 : m.2.length ≤ 500) : FdOk (oddL fs ++ [m]) := by
  obtain ⟨s1, s2, s3⟩ := short_ok hs
  obtain ⟨a, b, c⟩ := oddL_ok s3
  refine ⟨by simp; omega, by rw [List.map_append, totB_app]; simp [totB] at b ⊢; omega, fun f hf => ?_⟩
  rcases List.mem_append.1 hf with hf | hf
  · exact Nat.le_trans (c f hf) (by omega)
  · simp at hf; subst hf; omega
set_option maxHeartbeats 8000000 in
set_option maxRecDepth 100000 in
theorem law17 (vs : List (List UInt8)) (fs : List Fd) (m : Fd) (hn : vs.length ≤ 9223372036854775807) (hfs : fs.length ≤ 9223372036854775807) : PureC Tryd.prog 17 [.sl (vs.map PC.str), .sl (fs.map fdP), fdP m] (.bool true) := by
  refine pure_of_aw (ys := [_]) [77] [(27, [(2, .w []), (11, .w [])])] [] mixed Tryd.func17 rfl (by kernel_rfl) (by kernel_rfl) (by simp [Tryd.ntmps17]) rfl ?_
  obtain ⟨mn, mv⟩ := m
  simp [fdP]
  refine pcall_of awake38 rfl ?_
  simp
  refine pcall_of (few39 vs hn) (by simp) ?_
  cases hf : fewB vs with
  | false =>
    simp
    refine pcall_of awake38 rfl ?_
    simp [Tryd.results17]
  | true =>
  simp
  refine pcall_of (short43 fs hfs) (by simp) ?_
  cases hsa : shortB fs with
  | false =>
    simp
    refine pcall_of awake38 rfl ?_
    simp [Tryd.results17]
  | true =>
  by_cases c1 : mn.length ≤ 300
  case neg =>
    have d : (300 : Int) < (mn.length : Int) := by omega
    simp [d, show 300 < mn.length by omega]
    refine pcall_of awake38 rfl ?_
    simp [Tryd.results17]
  have d1 : ¬ (300 : Int) < (mn.length : Int) := by omega
  by_cases c2 : mv.length ≤ 500
  case neg =>
    have d : (500 : Int) < (mv.length : Int) := by omega
    simp [d1, show ¬ 300 < mn.length by omega, d, show 500 < mv.length by omega]
    refine pcall_of awake38 rfl ?_
    simp [Tryd.results17]
  have d2 : ¬ (500 : Int) < (mv.length : Int) := by omega
  obtain ⟨f1, f2, f3⟩ := few_tot hf
  have hN := rnames41 vs (by omega) (by omega) (fun v hv => Nat.le_trans (f3 v hv) (by omega))
  simp [d1, show ¬ 300 < mn.length by omega, d2, show ¬ 500 < mv.length by omega]
  refine pcall_of hN (by simp) ?_
  cases hR : rnamesN vs with
  | none => simp [Tryd.results17]
  | some l =>
  simp
  have no := names_ok hf hR
  have nl := no.1
  have oa := short_fd hsa
  have oo := odd_fd hsa
  have om := odd_fdm (m := (mn, mv)) hsa c1 c2
  obtain ⟨s1, s2, s3⟩ := short_ok hsa
  obtain ⟨o1, o2, o3⟩ := oddL_ok s3
  refine aw_loop (fun y : Nat × List Fd => y.1 ≤ fs.length ∧ y.2 = oddL (fs.take y.1) ∧ noQs (fs.take y.1)) (fun y => [(1, .p (.sl (fs.map fdP))), (5, .p (.ref (.agg false [.str mn, .str mv]))), (7, .p (.sl (l.map PC.str))), (9, .own 0 (y.2.map fdP)), (10, .p (.int y.1))])
    (fun y => ⟨[], [(0, 67, 2)], 1⟩) (fun y => fs.length - y.1) (0, []) ⟨by simp, rfl, by simp [noQs]⟩ _ (le_own 9 67 2 [] (.inr ⟨rfl, by simp⟩)) (leN_id (by simp)) ?_
  rintro ⟨i, odd⟩ ⟨h1, h2, h3⟩
  simp only at h1 h2 h3
  by_cases ci : i < fs.length
  case neg =>
    obtain rfl : i = fs.length := by omega
    rw [List.take_length] at h2 h3
    subst h2
    have m1 := match46 l fs (oddL fs) oa oo no
    rw [odd_match h3] at m1
    simp
    refine aw_loop (fun j : Nat => j ≤ l.length ∧ ∀ n ∈ l.take j, isB n (mn, mv) = false) (fun j => [(1, .p (.sl (fs.map fdP))), (5, .p (.ref (.agg false [.str mn, .str mv]))), (7, .p (.sl (l.map PC.str))), (9, .own 0 ((oddL fs).map fdP)), (16, .p (.int j))])
      (fun j => ⟨[], [(0, 67, 2)], 1⟩) (fun j => l.length - j) 0 (by simp) _ (AS.le_refl _ _) (leN_id (by simp)) ?_
    rintro j ⟨g1, g2⟩
    have hlow : ∀ n ∈ l, lowB n = n := fun n hn => by
      obtain ⟨_, p, _, rfl⟩ := names_tk hR n hn
      have hll : ∀ c, lowO (lowO c) = lowO c := fun c => by
        have := all256 (p := fun c => lowO (lowO c) == lowO c) (by kernel_rfl) c
        simpa using this
      unfold lowB; rw [List.map_map]; congr 1; funext c; exact hll c
    by_cases cj : j < l.length
    · simp [cj]
      refine call_of (rlower32 mn (by omega)) ?_
      have e := hlow l[j] (List.getElem_mem cj)
      by_cases hx : lowB mn = l[j]
      · have dx : (lowB mn == l[j]) = true := by simpa using hx
        simp [dx, cj]
        refine pcall_of m1 (by simp) ?_
        simp [Tryd.results17]
      · have dx : (lowB mn == l[j]) = false := by simpa using hx
        simp [dx, cj]
        refine ⟨j + 1, ⟨by omega, ?_⟩, by omega, leN_id ?_⟩
        · intro n hn
          rw [List.take_succ_eq_append_getElem cj] at hn
          rcases List.mem_append.1 hn with hn | hn
          · exact g2 n hn
          · simp at hn; subst hn; unfold isB; rw [e]; exact dx
        · simp [wrap64_id (n := (j : Int) + 1) (by omega) (by omega)]
    · obtain rfl : j = l.length := by omega
      rw [List.take_length] at g2
      have m2 := match46 l fs (oddL fs ++ [(mn, mv)]) oa om no
      rw [odd_more h3 g2] at m2
      simp
      refine ⟨?_, by omega, by omega, ?_⟩
      · rintro x a b _ rfl; rfl
      refine pcall_of m2 (by simp [fdP]) ?_
      simp [Tryd.results17]
  have hf3 := s3 fs[i] (List.getElem_mem ci)
  have hsp : splitB [fs[i].2] = spl1 fs[i].2 := by simp [splitB]
  have hS := rsplit49 [fs[i].2] (by simp) (by simp [totB]; omega) (by simp; omega)
  rw [hsp] at hS
  have hst : oddL (fs.take (i + 1)) = odd ++ oddF fs[i] := by rw [List.take_succ_eq_append_getElem ci, oddL_snoc, ← h2]
  have hol : odd.length ≤ 30 * 501 := by
    rw [h2]
    refine Nat.le_trans (oddL_ok (fs := fs.take i) fun f hf => s3 f (List.mem_of_mem_take hf)).1 ?_
    rw [List.length_take]
    exact Nat.mul_le_mul_right _ (by omega)
  have hpl := spl1_len fs[i].2
  have hpt := fun p (hp : p ∈ spl1 fs[i].2) => totB_mem hp
  have hpt2 := spl1_tot fs[i].2
  simp [ci]
  refine pcall_of hS (by simp) ?_
  have hfe : ∀ (x : PC) (a b : List UInt8), (a, b) ∈ odd → fdP (a, b) = x → x.width = 2 := by rintro x a b _ rfl; rfl
  obtain ⟨f, hfq⟩ : ∃ f, f = fs[i] := ⟨_, rfl⟩
  obtain ⟨ps, hps⟩ : ∃ ps, ps = spl1 f.2 := ⟨_, rfl⟩
  have hoF : oddF f = if ps = [] then [f] else ps.map (mkO f) := by rw [hps]; rfl
  rw [← hfq] at hf3 hst hpl hpt hpt2 ⊢
  rw [← hps] at hpl hpt hpt2 ⊢
  have w0 : IntKind.i64.wrap 0 = 0 := rfl
  by_cases h0 : ps = []
  case' pos =>
    have dz : ((ps.length : Int) == 0) = true := by rw [h0]; rfl
    obtain ⟨ob, hobe⟩ : ∃ ob, ob = odd ++ [f] := ⟨_, rfl⟩
    have hob : ob ++ ps.map (mkO f) = odd ++ oddF f := by rw [hoF, if_pos h0, h0, hobe]; simp
    have hobl : ob.length ≤ 30 * 501 + 1 := by rw [hobe, List.length_append]; simp; omega
    simp [dz, ci, h0]
    rw [← hfq]
    refine ⟨hfe, by omega, by omega, by omega, ?_⟩
    have hobm : odd.map fdP ++ [fdP f] = ob.map fdP := by rw [hobe]; simp
    rw [hobm]
    clear hobe hobm
    refine aw_loop (fun k : Nat => k ≤ f.1.length) (fun k => [(1, .p (.sl (fs.map fdP))), (5, .p (.ref (.agg false [.str mn, .str mv]))), (7, .p (.sl (l.map PC.str))), (9, .own 0 (ob.map fdP)), (10, .p (.int i)), (11, .p (.sl (ps.map PC.str))), (12, .view 1 0 f.1.length 1 none), (13, .p (.int k))])
      (fun k => ⟨[(1, rowByt (upM f.1 k))], [(0, 67, 2)], 2⟩) (fun k => f.1.length - k) 0 (by simp) _ (AS.le_refl _ _) (leN_of [(0, 1), (1, 2)] (by simp [upM, h0])) ?_
  case' neg =>
    have dz : ((ps.length : Int) == 0) = false := by
      have : 0 < ps.length := List.length_pos_iff.2 h0
      rw [beq_eq_false_iff_ne]; omega
    obtain ⟨ob, hobe⟩ : ∃ ob, ob = odd := ⟨_, rfl⟩
    have hob : ob ++ ps.map (mkO f) = odd ++ oddF f := by rw [hoF, if_neg h0, hobe]
    have hobl : ob.length ≤ 30 * 501 + 1 := by rw [hobe]; omega
    simp [dz, ci, h0]
    rw [← hfq]
    refine ⟨by omega, ?_⟩
    rw [← hobe]
    refine aw_loop (fun k : Nat => k ≤ f.1.length) (fun k => [(1, .p (.sl (fs.map fdP))), (5, .p (.ref (.agg false [.str mn, .str mv]))), (7, .p (.sl (l.map PC.str))), (9, .own 0 (ob.map fdP)), (10, .p (.int i)), (11, .p (.sl (ps.map PC.str))), (12, .view 1 0 f.1.length 1 none), (13, .p (.int k))])
      (fun k => ⟨[(1, rowByt (upM f.1 k))], [(0, 67, 2)], 2⟩) (fun k => f.1.length - k) 0 (by simp) _ (AS.le_refl _ _) (leN_id (by simp [upM])) ?_
  all_goals
    intro k hk
    have hlen := upM_len f.1 k
    by_cases ck : k < f.1.length
    case pos =>
      have hat := upM_at f.1 k ck
      have hg : (upM f.1 k)[k]'(by omega) = f.1[k] := by
        have := List.getElem?_eq_getElem (l := upM f.1 k) (i := k) (by omega)
        rw [hat] at this; injection this with this; exact this.symm
      have hs := upM_set f.1 k ck
      have hrow : ∀ v : UInt8, ((bytesPC (upM f.1 k)).map AV.p).take k ++ AV.p (u8P v) :: ((bytesPC (upM f.1 k)).map AV.p).drop (k + 1) = (bytesPC ((upM f.1 k).set k v)).map AV.p := fun v => by
        rw [← List.map_take, ← List.map_drop]
        simp only [bytesPC, ← List.map_take, ← List.map_drop]
        rw [List.set_eq_take_append_cons_drop, if_pos (by omega)]
        simp
      have hsame : upO f.1[k] = f.1[k] → upM f.1 (k + 1) = upM f.1 k := fun e => by
        rw [← hs, e, ← hg]; exact List.set_getElem_self _
      by_cases a1 : 97 ≤ f.1[k].toNat
      · have b1 : (97 : Int) ≤ (f.1[k].toNat : Int) := by omega
        by_cases a2 : f.1[k].toNat ≤ 122
        · have b2 : (f.1[k].toNat : Int) ≤ 122 := by omega
          have w2 : IntKind.u8.wrap ((f.1[k].toNat : Int) - 32) = ((upO f.1[k]).toNat : Int) := by
            rw [wrapU8_id (by omega) (by omega), upO_nat _ a1 a2]
          simp [ck, hlen, hg, a1, b1, a2, b2, w2]
          refine ⟨by omega, k + 1, by omega, by omega, leN_id ?_⟩
          simp [wrap64_id (n := (k : Int) + 1) (by omega) (by omega)]
          rw [← hs]
          have hr := hrow (upO f.1[k])
          unfold u8P at hr
          rw [hr]
          exact List.prefix_refl _
        · have b2 : ¬ (f.1[k].toNat : Int) ≤ 122 := by omega
          have hl' : upO f.1[k] = f.1[k] := by unfold upO; rw [if_neg (by omega)]
          simp [ck, hlen, hg, a1, b1, a2, b2]
          refine ⟨k + 1, by omega, by omega, leN_id ?_⟩
          simp [wrap64_id (n := (k : Int) + 1) (by omega) (by omega), hsame hl']
      · have b1 : ¬ (97 : Int) ≤ (f.1[k].toNat : Int) := by omega
        have hl' : upO f.1[k] = f.1[k] := by unfold upO; rw [if_neg (by omega)]
        simp [ck, hlen, hg, a1, b1]
        refine ⟨k + 1, by omega, by omega, leN_id ?_⟩
        simp [wrap64_id (n := (k : Int) + 1) (by omega) (by omega), hsame hl']
    obtain rfl : k = f.1.length := by omega
    have hM : upM f.1 f.1.length = upB f.1 := by simp [upM, upB]
    rw [hM]
    clear hlen hk ck
    simp
    refine aw_loop (fun y : Nat × List Fd => y.1 ≤ ps.length ∧ y.2 = ob ++ (ps.take y.1).map (mkO f) ∧ ∀ p ∈ ps.take y.1, noQ p) (fun y => [(1, .p (.sl (fs.map fdP))), (5, .p (.ref (.agg false [.str mn, .str mv]))), (7, .p (.sl (l.map PC.str))), (9, .own 0 (y.2.map fdP)), (10, .p (.int i)), (11, .p (.sl (ps.map PC.str))), (12, .view 1 0 f.1.length 1 none), (14, .p (.int y.1))])
      (fun y => ⟨[(1, rowByt (upB f.1))], [(0, 67, 2)], 2⟩) (fun y => ps.length - y.1) (0, ob) ⟨by simp, by simp, by simp⟩ _ (AS.le_refl _ _) (leN_id (by simp)) ?_
    rintro ⟨k, out⟩ ⟨g1, g2, g3⟩
    simp only at g1 g2 g3
    by_cases ck : k < ps.length
    case neg =>
      obtain rfl : k = ps.length := by omega
      rw [List.take_length] at g2 g3
      rw [hob] at g2
      simp
      refine ⟨i + 1, out, ⟨by omega, by rw [g2, hst], ?_⟩, by omega, leN_id ?_⟩
      · intro g hg p hp
        rw [List.take_succ_eq_append_getElem ci] at hg
        rcases List.mem_append.1 hg with hg | hg
        · exact h3 g hg p hp
        · simp at hg
          rw [← hfq] at hg
          subst hg
          rw [← hps] at hp
          exact g3 p hp
      · simp [wrap64_id (n := (i : Int) + 1) (by omega) (by omega)]
    have hpk := hpt ps[k] (List.getElem_mem ck)
    simp [ck]
    refine aw_loop (fun j : Nat => j ≤ ps[k].length ∧ ∀ c ∈ ps[k].take j, c ≠ 34) (fun j => [(1, .p (.sl (fs.map fdP))), (5, .p (.ref (.agg false [.str mn, .str mv]))), (7, .p (.sl (l.map PC.str))), (9, .own 0 (out.map fdP)), (10, .p (.int i)), (11, .p (.sl (ps.map PC.str))), (12, .view 1 0 f.1.length 1 none), (14, .p (.int k)), (15, .p (.int j))])
      (fun j => ⟨[(1, rowByt (upB f.1))], [(0, 67, 2)], 2⟩) (fun j => ps[k].length - j) 0 (by simp) _ (AS.le_refl _ _) (leN_id (by simp)) ?_
    rintro j ⟨j1, j2⟩
    by_cases cj : j < ps[k].length
    case pos =>
      by_cases cq : ps[k][j] = 34
      · simp [ck, cj, cq, Tryd.results17]
      · have dq : ((ps[k][j].toNat : Int) == 34) = false := by
          simp; intro e; apply cq; apply UInt8.toNat_inj.1; exact Int.ofNat_inj.1 e
        simp [ck, cj, dq]
        refine ⟨j + 1, ⟨by omega, ?_⟩, by omega, leN_id ?_⟩
        · intro c hc
          rw [List.take_succ_eq_append_getElem cj] at hc
          rcases List.mem_append.1 hc with hc | hc
          · exact j2 c hc
          · simp at hc; subst hc; exact cq
        · simp [wrap64_id (n := (j : Int) + 1) (by omega) (by omega)]
    obtain rfl : j = ps[k].length := by omega
    rw [List.take_length] at j2
    simp [ck]
    refine cv_of (upB f.1) (by simp) (by simp) ?_ ?_
    · exact bor_byt (M := []) (by simp [upB]) (by simp [lk])
    have hol2 : out.length ≤ 30 * 501 + 1 + 500 := by rw [g2]; simp; omega
    have hfe2 : ∀ (x : PC) (a b : List UInt8), (a, b) ∈ out → fdP (a, b) = x → x.width = 2 := by rintro x a b _ rfl; rfl
    simp [ck]
    refine ⟨by omega, by omega, hfe2, by omega, by omega, k + 1, out ++ [mkO f ps[k]], ⟨by omega, ?_, ?_⟩, by omega, leN_of [(0, 2)] ?_⟩
    · rw [g2, ← List.map_take, List.take_succ_eq_append_getElem ck, List.map_append, List.append_assoc]; rfl
    · intro p hp
      rw [List.take_succ_eq_append_getElem ck] at hp
      rcases List.mem_append.1 hp with hp | hp
      · exact g3 p hp
      · simp at hp; subst hp; exact j2
    · simp [wrap64_id (n := (k : Int) + 1) (by omega) (by omega), mkO]
theorem law17n {x y z : PC} (hx : strsS x) (hy : fldsS y) (hz : fldS z) : PureC Tryd.prog 17 [x, y, z] (.bool true) := by
  obtain ⟨vs, rfl, h1⟩ := hx
  obtain ⟨fs, rfl, h2⟩ := hy
  obtain ⟨m, rfl, _, _⟩ := hz
  exact law17 vs fs m h1 h2
end Go.Av
