/- URIs: what is coded, strings.Join, segments; the document's Coded and Dots. -/
import Derived.Test.YtffoncjofjgojaaGreatDoorZq
import Derived.BigCall
import Derived.Deep.LoopGhost
import Derived.OwnWalk
import Derived.Lib.RabinKarpLaws
import Derived.Test.YtffoncjofjgojaaGreatDoorProg
import Derived.Shelf.Lays
import Derived.Shelf.Strings.OnBuilder
set_option linter.all false
/-! part Z172 -/
namespace Go.Av
open Go.Proofs
set_option maxRecDepth 100000
def dg16 : List UInt8 := [48, 49, 50, 51, 52, 53, 54, 55, 56, 57, 97, 98, 99, 100, 101, 102]
def hxB (c : UInt8) : Bool := decide (digN c < 16)
theorem u8_all {p : UInt8 → Prop} (h : ∀ n : Fin 256, p (UInt8.ofNat n.val)) (c : UInt8) : p c := by
  have := h ⟨c.toNat, c.toNat_lt⟩
  rwa [show UInt8.ofNat c.toNat = c from UInt8.ofNat_toNat] at this
theorem dg16_ix (c : UInt8) : ixB dg16 (lowO c) = if hxB c = true then (digN c : Int) else -1 :=
  u8_all (p := fun c => ixB dg16 (lowO c) = if hxB c = true then (digN c : Int) else -1) (by decide +kernel) c
def hexV (l : List UInt8) : Nat := l.foldl (fun n c => n * 16 + digN c) 0
def hexR (l : List UInt8) : Int × Int := if l.all hxB = true then ((hexV l : Int), 0) else (0, 10)
theorem hexV_snoc (l : List UInt8) (k : Nat) (h : k < l.length) : hexV (l.take (k + 1)) = hexV (l.take k) * 16 + digN l[k] := by
  rw [List.take_succ_eq_append_getElem h]; unfold hexV; rw [List.foldl_append]; rfl
theorem hexR_no {l : List UInt8} {k : Nat} (h : k < l.length) (hd : hxB l[k] = false) : hexR l = (0, 10) := by
  unfold hexR
  rw [if_neg]
  intro e
  have := List.all_eq_true.1 e _ (List.getElem_mem h)
  rw [hd] at this; cases this
set_option maxHeartbeats 1000000 in
theorem hex162 (l : List UInt8) (most : Nat) (hne : l ≠ []) (hl : l.length ≤ 2) (hm : 15 ≤ most) (hm2 : most ≤ 255) (hb : ∀ k, k < l.length → 16 * hexV (l.take k) + 15 ≤ most) : PureC Tryz.prog 162 [.str l, .int 16, .int most] (.tp [.int (hexR l).1, .int (hexR l).2]) := by
  refine pure_of_aw (ys := [_, _]) [] [] [] mixed Tryz.func162 rfl (by kernel_rfl) (by kernel_rfl) (by simp [Tryz.ntmps162]) rfl ?_
  have hm0 : ¬ (most : Int) < 0 := by omega
  have hlow : (lowB l).length = l.length := by simp [lowB]
  simp [hm0]
  refine pcall_of (lower76 l (by omega)) (by simp) ?_
  simp [hlow]
  refine ⟨by omega, ?_⟩
  refine aw_loop0 (fun k : Nat => k ≤ l.length ∧ (l.take k).all hxB = true) (fun k => [(0, .p (.str l)), (1, .p (.int 16)), (2, .p (.int most)), (8, .p (.int (hexV (l.take k)))), (9, .p (.bool false)),
    (17, .p (.sl (bytesPC (lowB l)))), (18, .p (.int l.length)), (19, .p (.int k))]) (fun k => l.length - k) 0 (by simp) (leN_id (by simp [hexV])) ?_
  rintro k ⟨h1, h2⟩
  by_cases c : k < l.length
  · have hlk : (lowB l)[k]'(by omega) = lowO l[k] := by simp [lowB]
    have hbk := hb k c
    simp [c, hlow, hlk]
    refine pcall_of (sindex93 dg16 (lowO l[k])) (by simp [dg16]) ?_
    rw [dg16_ix]
    have hsn := hexV_snoc l k c
    have hall : (l.take (k + 1)).all hxB = hxB l[k] := by rw [List.take_succ_eq_append_getElem c, List.all_append, h2]; simp
    cases hd : hxB l[k] with
    | false =>
      have hnum := hexR_no c hd
      simp [hnum, Tryz.results162]
    | true =>
      rw [hd] at hall
      have hd2 : digN l[k] < 16 := by unfold hxB at hd; simpa using hd
      generalize digN l[k] = d at *
      generalize hexV (l.take k) = n at *
      have w1 : IntKind.i64.wrap ((most : Int) - (d : Int)) = ((most - d : Nat) : Int) := by rw [wrap64_id (by omega) (by omega)]; omega
      have w2 : IntKind.i64.wrap (((most - d : Nat) : Int) / 16) = (((most - d) / 16 : Nat) : Int) := by rw [wrap64_id (by omega) (by omega)]; omega
      have q : ¬ (most - d) / 16 < n := by omega
      have q2 : ¬ ((most - d : Nat) : Int) / 16 < (n : Int) := by omega
      have q3 : ¬ (most : Int) < (d : Int) := by omega
      have q4 : ¬ most < d := by omega
      have q5 : ¬ (d : Int) < 0 := by omega
      have w3 : IntKind.i64.wrap ((n : Int) * 16) = ((n * 16 : Nat) : Int) := by rw [wrap64_id (by omega) (by omega)]; omega
      have w4 : IntKind.i64.wrap ((n : Int) * 16 + (d : Int)) = (n : Int) * 16 + (d : Int) := wrap64_id (by omega) (by omega)
      simp [w1, w2, q, q2, q3, q4, q5, w3]
      refine ⟨k + 1, ⟨by omega, List.all_eq_true.1 hall⟩, by omega, leN_id ?_⟩
      simp [hsn, w4, wrap64_id (n := (k : Int) + 1) (by omega) (by omega)]
  · obtain rfl : k = l.length := by omega
    rw [List.take_length] at h2 ⊢
    have hd : (l == []) = false := by simpa using hne
    have hr : hexR l = ((hexV l : Int), 0) := by unfold hexR; rw [if_pos h2]
    simp [hne, hd, hr, Tryz.results162]
theorem hex189 (l : List UInt8) (most : Nat) (hne : l ≠ []) (hl : l.length ≤ 2) (hm : 15 ≤ most) (hm2 : most ≤ 255) (hb : ∀ k, k < l.length → 16 * hexV (l.take k) + 15 ≤ most) : PureC Tryz.prog 189 [.str l, .int most] (.tp [.int (hexR l).1, .int (hexR l).2]) := by
  refine pure_of_aw (ys := [_, _]) [] [] [] mixed Tryz.func189 rfl (by kernel_rfl) (by kernel_rfl) (by simp [Tryz.ntmps189]) rfl ?_
  simp
  refine pcall_of (hex162 l most hne hl hm hm2 hb) (by simp) ?_
  simp [Tryz.results189]
theorem hex_one (c : UInt8) : PureC Tryz.prog 189 [.str [c], .int 15] (.tp [.int (if hxB c = true then (digN c : Int) else 0), .int (if hxB c = true then 0 else 10)]) := by
  have h := hex189 [c] 15 (by simp) (by simp) (by omega) (by omega) (fun k hk => by
    obtain rfl : k = 0 := by simpa using hk
    simp [hexV])
  have e : hexR [c] = (if hxB c = true then (digN c : Int) else 0, if hxB c = true then 0 else 10) := by
    unfold hexR hexV
    cases hc : hxB c <;> simp [hc]
  rw [e] at h
  exact h
theorem hex_two (a b : UInt8) : PureC Tryz.prog 189 [.str [a, b], .int 255] (.tp [.int (if hxB a = true ∧ hxB b = true then (digN a * 16 + digN b : Nat) else 0), .int (if hxB a = true ∧ hxB b = true then 0 else 10)]) := by
  by_cases ha : hxB a = true
  · have ha2 : digN a < 16 := by unfold hxB at ha; simpa using ha
    have h := hex189 [a, b] 255 (by simp) (by simp) (by omega) (by omega) (fun k hk => by
      rcases (by simp at hk; omega : k = 0 ∨ k = 1) with rfl | rfl
      · simp [hexV]
      · simp [hexV]; omega)
    have e : hexR [a, b] = (if hxB a = true ∧ hxB b = true then ((digN a * 16 + digN b : Nat) : Int) else 0, if hxB a = true ∧ hxB b = true then 0 else 10) := by
      unfold hexR hexV
      cases hb : hxB b <;> simp [ha, hb]
    rw [e] at h
    exact h
  · have ha' : hxB a = false := by simpa using ha
    refine pure_of_aw (ys := [_, _]) [] [] [] mixed Tryz.func189 rfl (by kernel_rfl) (by kernel_rfl) (by simp [Tryz.ntmps189]) rfl ?_
    have h162 : PureC Tryz.prog 162 [.str [a, b], .int 16, .int 255] (.tp [.int 0, .int 10]) := by
      refine pure_of_aw (ys := [_, _]) [] [] [] mixed Tryz.func162 rfl (by kernel_rfl) (by kernel_rfl) (by simp [Tryz.ntmps162]) rfl ?_
      have hlow : lowB [a, b] = [lowO a, lowO b] := rfl
      simp
      refine pcall_of (lower76 [a, b] (by simp)) (by simp) ?_
      simp [hlow]
      refine aw_loop0 (fun k : Nat => k = 0) (fun k => [(0, .p (.str [a, b])), (1, .p (.int 16)), (2, .p (.int 255)), (8, .p (.int 0)), (9, .p (.bool false)),
        (17, .p (.sl (bytesPC [lowO a, lowO b]))), (18, .p (.int 2)), (19, .p (.int k))]) (fun k => 2 - k) 0 rfl (leN_id (by simp)) ?_
      rintro k rfl
      simp
      refine pcall_of (sindex93 dg16 (lowO a)) (by simp [dg16]) ?_
      rw [dg16_ix, if_neg ha]
      simp [Tryz.results162]
    simp
    refine pcall_of h162 (by simp) ?_
    simp [ha', Tryz.results189]
theorem rhex176 (c : UInt8) : PureC Tryz.prog 176 [.str [c], .int 16, .int 15] (.tp [.int (if hxB c = true then (digN c : Int) else 0), .int (if hxB c = true then 0 else 10)]) := by
  have hdg : digN c < 16 ∨ digN c = 99 := by unfold digN; split; omega; split; omega; split; omega; omega
  refine pure_of_aw (ys := [_, _]) [] [] [] mixed Tryz.func176 rfl (by kernel_rfl) (by kernel_rfl) (by simp [Tryz.ntmps176]) rfl ?_
  simp
  refine aw_loop0 (fun k : Nat => k ≤ 1 ∧ (k = 1 → hxB c = true)) (fun k => [(0, .p (.str [c])), (1, .p (.int 16)), (2, .p (.int 15)), (8, .p (.int k))]) (fun k => 1 - k) 0 (by simp) (leN_id (by simp)) ?_
  rintro k ⟨h1, h2⟩
  rcases (by omega : k = 0 ∨ k = 1) with rfl | rfl
  · simp
    refine pcall_of (digit69 c) (by simp) ?_
    cases hd : hxB c with
    | false =>
      have h16 : 16 ≤ digN c := by unfold hxB at hd; simpa using hd
      have h16' : (16 : Int) ≤ (digN c : Int) := by omega
      simp [h16, h16', hd, Tryz.results176]
    | true =>
      have h16 : ¬ 16 ≤ digN c := by unfold hxB at hd; simp at hd; omega
      have h16' : ¬ (16 : Int) ≤ (digN c : Int) := by omega
      simp [h16, h16', wr1]
      exact ⟨1, by omega, by omega, leN_id (by simp)⟩
  · have hd := h2 rfl
    have h16 : digN c < 16 := by unfold hxB at hd; simpa using hd
    obtain ⟨F, F0, F1⟩ : ∃ F : Nat → Nat, F 0 = 0 ∧ F 1 = digN c := ⟨fun k => if k = 0 then 0 else digN c, rfl, rfl⟩
    simp
    refine aw_loop0 (fun k : Nat => k ≤ 1) (fun k => [(0, .p (.str [c])), (1, .p (.int 16)), (2, .p (.int 15)), (9, .p (.int (F k))), (10, .p (.int k))]) (fun k => 1 - k) 0 (by omega) (leN_id (by simp [F0])) ?_
    intro k h1
    rcases (by omega : k = 0 ∨ k = 1) with rfl | rfl
    · simp
      refine pcall_of (digit69 c) (by simp) ?_
      generalize F 0 = n at *
      generalize digN c = d at *
      have q1 : ¬ (15 : Int) < (d : Int) := by omega
      have q2 : ¬ 15 < d := by omega
      have q3 : ¬ (15 - d) / 16 < n := by omega
      have q4 : ¬ ((15 - d : Nat) : Int) / 16 < (n : Int) := by omega
      have w1 : IntKind.i64.wrap ((15 : Int) - (d : Int)) = ((15 - d : Nat) : Int) := by rw [wrap64_id (by omega) (by omega)]; omega
      have w2 : IntKind.i64.wrap (((15 - d : Nat) : Int) / 16) = (((15 - d) / 16 : Nat) : Int) := by rw [wrap64_id (by omega) (by omega)]; omega
      have w3 : IntKind.i64.wrap ((n : Int) * 16) = ((n * 16 : Nat) : Int) := by rw [wrap64_id (by omega) (by omega)]; omega
      have w4 : IntKind.i64.wrap ((n : Int) * 16 + (d : Int)) = (n : Int) * 16 + (d : Int) := wrap64_id (by omega) (by omega)
      simp [q1, q2, q3, q4, w1, w2, w3, wr1]
      exact ⟨1, by omega, by omega, leN_id (by simp [w4, F1]; omega)⟩
    · simp [F1, hd, Tryz.results176]
theorem hexa238 (c : UInt8) : PureC Tryz.prog 238 [u8P c] (.int (digN c)) := by
  have hdg : digN c < 16 ∨ digN c = 99 := by unfold digN; split; omega; split; omega; split; omega; omega
  have h := rhex176 c
  refine pure_of_aw (ys := [_]) [] [] [] mixed Tryz.func238 rfl (by kernel_rfl) (by kernel_rfl) (by simp [Tryz.ntmps238]) rfl ?_
  simp [u8P]
  refine conv_l [c] (by simp) (by simp) rfl ?_
  simp
  refine pcall_of h (by simp) ?_
  cases hd : hxB c with
  | false =>
    have : digN c = 99 := by unfold hxB at hd; simp at hd; omega
    simp [this, Tryz.results238]
  | true => simp [Tryz.results238]
/-- a letter, a digit, or one of -._~ -/
def frU (c : UInt8) : Bool := ofU c [freeU]
def frX (n : Nat) : Bool := (decide (48 ≤ n) && decide (n ≤ 57)) || (decide (65 ≤ n) && decide (n ≤ 90)) || (decide (97 ≤ n) && decide (n ≤ 122)) || decide (n = 45) || decide (n = 46) || decide (n = 95) || decide (n = 126)
theorem frX_eq (c : UInt8) : frX c.toNat = frU c := u8_all (p := fun c => frX c.toNat = frU c) (by decide +kernel) c
set_option maxHeartbeats 4000000 in
theorem free239 (c : UInt8) : PureC Tryz.prog 239 [u8P c] (.bool (frU c)) := by
  rw [← frX_eq]
  show PureC Tryz.prog 239 [.sc (.int .u8 c.toNat)] _
  generalize c.toNat = n
  refine pure_of_aw (ys := [_]) [] [] [] mixed Tryz.func239 rfl (by kernel_rfl) (by kernel_rfl) (by simp [Tryz.ntmps239]) rfl ?_
  obtain ⟨R, hR⟩ : ∃ R, R = frX n := ⟨_, rfl⟩
  rw [← hR]
  unfold frX at hR
  by_cases a1 : (48 : Int) ≤ n <;> by_cases a2 : (n : Int) ≤ 57
  all_goals by_cases b1 : (65 : Int) ≤ n
  all_goals try (exfalso; omega)
  all_goals by_cases b2 : (n : Int) ≤ 90
  all_goals try (exfalso; omega)
  all_goals by_cases d1 : (97 : Int) ≤ n
  all_goals try (exfalso; omega)
  all_goals by_cases d2 : (n : Int) ≤ 122
  all_goals try (exfalso; omega)
  all_goals by_cases e1 : (n : Int) = 45
  all_goals try (exfalso; omega)
  all_goals by_cases e2 : (n : Int) = 46
  all_goals try (exfalso; omega)
  all_goals by_cases e3 : (n : Int) = 95
  all_goals try (exfalso; omega)
  all_goals by_cases e4 : (n : Int) = 126
  all_goals try (exfalso; omega)
  all_goals
    first
      | (have hR2 : R = true := by rw [hR]; simp only [Bool.or_eq_true, Bool.and_eq_true, decide_eq_true_eq]; omega
         have f1 : ((n : Int) == 45) = decide ((n : Int) = 45) := rfl
         have f2 : ((n : Int) == 46) = decide ((n : Int) = 46) := rfl
         have f3 : ((n : Int) == 95) = decide ((n : Int) = 95) := rfl
         have f4 : ((n : Int) == 126) = decide ((n : Int) = 126) := rfl
         simp [a1, a2, b1, b2, d1, d2, f1, f2, f3, f4, e1, e2, e3, e4, hR2, Tryz.results239]; done)
      | (have hR2 : R = false := by rw [hR, ← Bool.not_eq_true]; simp only [Bool.or_eq_true, Bool.and_eq_true, decide_eq_true_eq]; omega
         have f1 : ((n : Int) == 45) = decide ((n : Int) = 45) := rfl
         have f2 : ((n : Int) == 46) = decide ((n : Int) = 46) := rfl
         have f3 : ((n : Int) == 95) = decide ((n : Int) = 95) := rfl
         have f4 : ((n : Int) == 126) = decide ((n : Int) = 126) := rfl
         simp [a1, a2, b1, b2, d1, d2, f1, f2, f3, f4, e1, e2, e3, e4, hR2, Tryz.results239]; done)
theorem among240 (c : UInt8) (l : List UInt8) (hl : l.length ≤ 1000000) : PureC Tryz.prog 240 [u8P c, .str l] (.bool (decide (c ∈ l))) := by
  refine pure_of_aw (ys := [_]) [] [] [] mixed Tryz.func240 rfl (by kernel_rfl) (by kernel_rfl) (by simp [Tryz.ntmps240]) rfl ?_
  obtain ⟨R, hR⟩ : ∃ R, R = decide (c ∈ l) := ⟨_, rfl⟩
  rw [← hR]
  simp
  refine aw_loop0 (fun i : Nat => i ≤ l.length ∧ R = decide (c ∈ l.drop i)) (fun i => [(0, .p (u8P c)), (1, .p (.str l)), (5, .p (.int i))]) (fun i => l.length - i) 0 ⟨by simp, by simpa using hR⟩ (leN_id (by simp)) ?_
  rintro i ⟨h1, h2⟩
  by_cases ci : i < l.length
  · have wi : IntKind.i64.wrap ((i : Int) + 1) = ((i + 1 : Nat) : Int) := by rw [wrap64_id (by omega) (by omega)]; rfl
    rw [List.drop_eq_getElem_cons ci] at h2
    by_cases e : l[i] = c
    · have hd : ((l[i].toNat : Int) == (c.toNat : Int)) = true := by simp [e]
      have h3 : R = true := by rw [h2]; simp [e]
      simp [ci, u8P, hd, h3, Tryz.results240]
    · have hd : ((l[i].toNat : Int) == (c.toNat : Int)) = false := by simpa using fun h => e (UInt8.toNat_inj.1 (Int.ofNat_inj.1 h))
      have h3 : R = decide (c ∈ l.drop (i + 1)) := by rw [h2]; exact decide_eq_decide.2 (by rw [List.mem_cons]; exact ⟨fun h => h.resolve_left (Ne.symm e), .inr⟩)
      simp [ci, u8P, hd, wi]
      exact ⟨i + 1, ⟨by omega, h3⟩, by omega, leN_id (by simp [u8P])⟩
  · rw [List.drop_eq_nil_of_le (by omega)] at h2
    simp at h2
    simp [ci, h2, Tryz.results240]
/-- a great letter for a small one -/
def grU (c : UInt8) : UInt8 := if 97 ≤ c.toNat then c - 32 else c
theorem great190 (c : UInt8) : PureC Tryz.prog 190 [u8P c] (u8P (grU c)) := by
  have hc := c.toNat_lt
  refine pure_of_aw (ys := [_]) [] [] [] mixed Tryz.func190 rfl (by kernel_rfl) (by kernel_rfl) (by simp [Tryz.ntmps190]) rfl ?_
  unfold grU
  by_cases h : 97 ≤ c.toNat
  · have h' : (97 : Int) ≤ (c.toNat : Int) := by omega
    have e : (c - 32).toNat = c.toNat - 32 := by
      rw [UInt8.toNat_sub_of_le _ _ (by rw [UInt8.le_iff_toNat_le]; show 32 ≤ c.toNat; omega)]; rfl
    have w1 : IntKind.u8.wrap ((c.toNat : Int) - 97) = (c.toNat : Int) - 97 := wrapU8_id (by omega) (by omega)
    have w2 : IntKind.u8.wrap ((c.toNat : Int) - 97 + 65) = ((c - 32).toNat : Int) := by rw [wrapU8_id (by omega) (by omega), e]; omega
    simp [u8P, h, h', w1, w2, Tryz.results190]
  · have h' : ¬ (97 : Int) ≤ (c.toNat : Int) := by omega
    simp [u8P, h, h', Tryz.results190]
end Go.Av

/-! part Z173 -/
namespace Go.Av
open Go.Proofs Go.RowKit
set_option maxRecDepth 100000
/-- two hexadecimal digits, made normal -/
def pctC (a b : UInt8) : List UInt8 := if frU (UInt8.ofNat (digN a * 16 + digN b)) = true then [UInt8.ofNat (digN a * 16 + digN b)] else [37, grU a, grU b]
/-- octets with what is coded made normal; none: they may not be -/
def codR (m : List UInt8) : List UInt8 → Option (List UInt8)
  | [] => some []
  | c :: l => if c = 37 then (match l with
      | a :: b :: l2 => if hxB a = true ∧ hxB b = true then (codR m l2).map (pctC a b ++ ·) else none
      | _ => none)
    else if ofU c (moreU m) = true then (codR m l).map (c :: ·) else none
theorem codR_ok {m : List UInt8} {c : UInt8} {l : List UInt8} (h : c ≠ 37) (h2 : ofU c (moreU m) = true) : codR m (c :: l) = (codR m l).map (c :: ·) := by
  match l with
  | [] => simp [codR, h, h2]
  | [a] => simp [codR, h, h2]
  | a :: b :: l => simp [codR, h, h2]
theorem codR_bad {m : List UInt8} {c : UInt8} {l : List UInt8} (h : c ≠ 37) (h2 : ofU c (moreU m) = false) : codR m (c :: l) = none := by
  match l with
  | [] => simp [codR, h, h2]
  | [a] => simp [codR, h, h2]
  | a :: b :: l => simp [codR, h, h2]
theorem codR_hex {m : List UInt8} {a b : UInt8} {l : List UInt8} (h : hxB a = true ∧ hxB b = true) : codR m (37 :: a :: b :: l) = (codR m l).map (pctC a b ++ ·) := by
  simp [codR, h]
theorem codR_nohex {m : List UInt8} {a b : UInt8} {l : List UInt8} (h : ¬ (hxB a = true ∧ hxB b = true)) : codR m (37 :: a :: b :: l) = none := by
  rw [codR, if_pos rfl, if_neg h]
theorem codR_short {m l : List UInt8} (h : l.length < 2) : codR m (37 :: l) = none := by
  match l, h with
  | [], _ => simp [codR]
  | [a], _ => simp [codR]
theorem of_rowG (x : UInt8) (m : ByteArray) (wr : World) (t : TypeId) (fz : Nat × Nat) (hg : GOk (memOf wr)) :
    Calls Tryz.prog 187 #[.int .u8 x.toNat, .slice (some ⟨wr.heap.size, 0, none⟩) 4 4] (wr.alloc (.cells (rowU m) t fz)) fun e w' => e = .returned (.bool (ofU x (moreU m.data.toList))) ∧ Below wr.heap.size wr w' := by
  have hb : Below wr.heap.size wr (wr.alloc (.cells (rowU m) t fz)) := (Below.refl _ _).alloc (Nat.le_refl _) _
  have hrow : (wr.alloc (.cells (rowU m) t fz)).heap[wr.heap.size]? = some (.cells (rowU m) t fz) := Array.getElem?_push_size
  have hsz : wr.heap.size ≤ (wr.alloc (.cells (rowU m) t fz)).heap.size := hb.size
  refine (of_any x (moreU m.data.toList) (moreU_len _) wr.heap.size (wr.alloc (.cells (rowU m) t fz)) hrow (rowU_list m) (gok_below hg hb)).mono ?_
  rintro e w' ⟨rfl, hB⟩
  exact ⟨rfl, hb.trans (hB.mono hsz)⟩
theorem of_row1 (x : UInt8) (wr : World) (t : TypeId) (fz : Nat × Nat) (hg : GOk (memOf wr)) :
    Calls Tryz.prog 187 #[.int .u8 x.toNat, .slice (some ⟨wr.heap.size, 0, none⟩) 1 1] (wr.alloc (.cells #[.string ⟨#[45, 46, 95, 126]⟩] t fz)) fun e w' => e = .returned (.bool (frU x)) ∧ Below wr.heap.size wr w' := by
  have hb : Below wr.heap.size wr (wr.alloc (.cells #[.string ⟨#[45, 46, 95, 126]⟩] t fz)) := (Below.refl _ _).alloc (Nat.le_refl _) _
  have hrow : (wr.alloc (.cells #[.string ⟨#[45, 46, 95, 126]⟩] t fz)).heap[wr.heap.size]? = some (.cells #[.string ⟨#[45, 46, 95, 126]⟩] t fz) := Array.getElem?_push_size
  have hsz : wr.heap.size ≤ (wr.alloc (.cells #[.string ⟨#[45, 46, 95, 126]⟩] t fz)).heap.size := hb.size
  refine (of_any x [freeU] (by simp) wr.heap.size (wr.alloc (.cells #[.string ⟨#[45, 46, 95, 126]⟩] t fz)) hrow rfl (gok_below hg hb)).mono ?_
  rintro e w' ⟨rfl, hB⟩
  exact ⟨rfl, hb.trans (hB.mono hsz)⟩
theorem great_any (x : UInt8) (W : World) (hg : GOk (memOf W)) : Calls Tryz.prog 190 #[.int .u8 x.toNat] W fun e w' => e = .returned (.int .u8 (grU x).toNat) ∧ Below W.heap.size W w' := by
  have h := (great190 x).2 (memOf W) W [.int .u8 x.toNat] ⟨fun _ _ _ h => h, hg⟩ (.cons (.sc _ rfl) .nil)
  refine h.mono ?_
  rintro e w' ⟨v, N, rfl, hr, _, _, _, hB⟩
  cases hr
  exact ⟨rfl, hB⟩
theorem hexw_any (a b : UInt8) (W : World) (hg : GOk (memOf W)) : Calls Tryz.prog 189 #[.string ⟨#[a, b]⟩, .int .i64 255] W fun e w' => e = .returned (.tuple #[.int .i64 (if hxB a = true ∧ hxB b = true then (digN a * 16 + digN b : Nat) else 0), .int .i64 (if hxB a = true ∧ hxB b = true then 0 else 10)]) ∧ Below W.heap.size W w' := by
  have h := (hex_two a b).2 (memOf W) W [.string ⟨#[a, b]⟩, .int .i64 255] ⟨fun _ _ _ h => h, hg⟩ (.cons (.sc _ rfl) (.cons (.sc _ rfl) .nil))
  refine h.mono ?_
  rintro e w' ⟨v, N, rfl, hr, _, _, _, hB⟩
  cases hr with
  | tup hs =>
    cases hs with
    | cons h1 hs =>
      cases hs with
      | cons h2 hs =>
        cases hs; cases h1; cases h2
        exact ⟨rfl, hB⟩
/-- a Builder that holds b, made behind w -/
structure BSt (w : World) (b : List UInt8) (W : World) : Prop where
  I : Lib.IsBuilder 194 5 w.heap.size w.heap.size (Lib.byteCells b) W
  B : Below w.heap.size w W
theorem BSt.below {w W W' : World} {b : List UInt8} (h : BSt w b W) (hb : Below W.heap.size W W') : BSt w b W' :=
  ⟨builder_below h.I hb, h.B.trans (hb.mono h.B.size)⟩
theorem wb_any {w W : World} {b : List UInt8} (x : UInt8) (h : BSt w b W) (hl : b.length ≤ 4000000) :
    Calls Tryz.prog 188 #[.pointer (some ⟨w.heap.size, 0, none⟩), .int .u8 x.toNat] W fun e w' => e = .returned .nilIface ∧ BSt w (b ++ [x]) w' := by
  refine (Any.Builder_WriteByte Tryz.l167 Tryz.bldX w.heap.size w.heap.size (Lib.byteCells b) x.toNat W h.I (by rw [Lib.byteCells_length]; omega) h.B.size).mono ?_
  rintro e w' ⟨rfl, h1, b1⟩
  rw [byteCells_snoc] at h1
  exact ⟨rfl, .inr h1, h.B.trans b1⟩
theorem of_st {w W : World} {b : List UInt8} (x : UInt8) (m : ByteArray) (t : TypeId) (fz : Nat × Nat) (hg : GOk (memOf w)) (h : BSt w b W) :
    Calls Tryz.prog 187 #[.int .u8 x.toNat, .slice (some ⟨W.heap.size, 0, none⟩) 4 4] (W.alloc (.cells (rowU m) t fz)) fun e w' => e = .returned (.bool (ofU x (moreU m.data.toList))) ∧ BSt w b w' := by
  refine (of_rowG x m W t fz (gok_below hg h.B)).mono ?_
  rintro e w' ⟨rfl, hB⟩
  exact ⟨rfl, h.below hB⟩
theorem fr_st {w W : World} {b : List UInt8} (x : UInt8) (t : TypeId) (fz : Nat × Nat) (hg : GOk (memOf w)) (h : BSt w b W) :
    Calls Tryz.prog 187 #[.int .u8 x.toNat, .slice (some ⟨W.heap.size, 0, none⟩) 1 1] (W.alloc (.cells #[.string ⟨#[45, 46, 95, 126]⟩] t fz)) fun e w' => e = .returned (.bool (frU x)) ∧ BSt w b w' := by
  refine (of_row1 x W t fz (gok_below hg h.B)).mono ?_
  rintro e w' ⟨rfl, hB⟩
  exact ⟨rfl, h.below hB⟩
theorem gr_st {w W : World} {b : List UInt8} (x : UInt8) (hg : GOk (memOf w)) (h : BSt w b W) : Calls Tryz.prog 190 #[.int .u8 x.toNat] W fun e w' => e = .returned (.int .u8 (grU x).toNat) ∧ BSt w b w' := by
  refine (great_any x W (gok_below hg h.B)).mono ?_
  rintro e w' ⟨rfl, hB⟩
  exact ⟨rfl, h.below hB⟩
theorem hx_st {w W : World} {b : List UInt8} (c d : UInt8) (hg : GOk (memOf w)) (h : BSt w b W) : Calls Tryz.prog 189 #[.string ⟨#[c, d]⟩, .int .i64 255] W fun e w' => e = .returned (.tuple #[.int .i64 (if hxB c = true ∧ hxB d = true then (digN c * 16 + digN d : Nat) else 0), .int .i64 (if hxB c = true ∧ hxB d = true then 0 else 10)]) ∧ BSt w b w' := by
  refine (hexw_any c d W (gok_below hg h.B)).mono ?_
  rintro e w' ⟨rfl, hB⟩
  exact ⟨rfl, h.below hB⟩
theorem ext_two (s : ByteArray) (k : Nat) (h : k + 2 < s.size) : s.extract (k + 1) (k + 3) = ⟨#[s[k + 1]'(by omega), s[k + 2]'h]⟩ := by
  apply ByteArray.ext
  apply Array.ext'
  have h1 : s.data.toList[k + 1]? = some (s[k + 1]'(by omega)) := Lib.data_getElem? s (k + 1) (by omega)
  have h2 : s.data.toList[k + 2]? = some (s[k + 2]'h) := Lib.data_getElem? s (k + 2) h
  simp only [ByteArray.data_extract, Array.toList_extract, List.extract]
  have e3 : k + 3 - (k + 1) = 2 := by omega
  rw [e3]
  obtain ⟨l1, g1⟩ := List.getElem?_eq_some_iff.1 h1
  obtain ⟨l2, g2⟩ := List.getElem?_eq_some_iff.1 h2
  rw [List.drop_eq_getElem_cons l1, List.drop_eq_getElem_cons l2, g1, g2]
  rfl
set_option maxHeartbeats 8000000 in
theorem coded_gen (s m : ByteArray) (w : World) (hs : s.size ≤ 1000000) (hg : GOk (memOf w)) :
    Calls Tryz.prog 144 #[.string s, .string m] w fun e w' => e = .returned (.tuple #[.string ⟨((codR m.data.toList s.data.toList).getD []).toArray⟩, .bool (codR m.data.toList s.data.toList).isSome]) ∧ Below w.heap.size w w' := by
  generalize hR : codR m.data.toList s.data.toList = R
  go_enter Tryz.func144, Tryz.ntmps144
  go_wp2
  go_loopg [7] s.size (fun g s7 wx => ∃ (k : Nat) (b : List UInt8), s7 = .int .i64 k ∧ k ≤ s.size ∧ s.size ≤ k + g ∧ b.length ≤ k ∧ (codR m.data.toList (s.data.toList.drop k)).map (b ++ ·) = R ∧ BSt w b wx)
  case atStart =>
    exact ⟨0, [], rfl, Nat.zero_le _, by omega, by simp, by simp [hR], Lib.fresh_isBuilder 194 5 w, (Below.refl _ w).alloc (Nat.le_refl _) _⟩
  case round =>
    obtain ⟨k, b, rfl, hks, hkg, hbl, hU, hS⟩ := hrel
    have HU : Aside ((codR m.data.toList (s.data.toList.drop k)).map (b ++ ·) = R) := hU
    clear hU hR
    by_cases hk : k < s.size
    case neg =>
      obtain rfl : k = s.size := by omega
      have hkz : ¬ ((s.size : Int) < (s.size : Int)) := by omega
      have hR2 := HU.out
      rw [List.drop_of_length_le (by rw [← Lib.size_eq]; exact Nat.le_refl _)] at hR2
      simp only [codR, Option.map_some, List.append_nil] at hR2
      subst hR2
      go_wp2_with (go_at_call 191; refine (Any.Builder_String_any Tryz.l169 Tryz.bldX w.heap.size w.heap.size b _ hS.I hS.B.size).mono ?_)
      rintro e W1 ⟨rfl, hb1⟩
      intro b1
      go_wp2
      go_ret2
      exact ⟨by simp, hS.B.trans b1⟩
    have hkz : (k : Int) < (s.size : Int) := by omega
    obtain ⟨x, hxk⟩ : ∃ x : UInt8, s[k]'hk = x := ⟨_, rfl⟩
    have hxl : s.data.toList[k]? = some x := by rw [← hxk]; exact Lib.data_getElem? s k hk
    have hdrop : s.data.toList.drop k = x :: s.data.toList.drop (k + 1) := by
      have hlt := (List.getElem?_eq_some_iff.1 hxl).1
      rw [List.drop_eq_getElem_cons hlt, (List.getElem?_eq_some_iff.1 hxl).2]
    have hR2 := HU.out
    rw [hdrop] at hR2
    by_cases a1 : x = 37
    case neg =>
      have n1 : ¬ ((x.toNat : Int) = 37) := fun h => a1 (UInt8.toNat_inj.1 (Int.ofNat_inj.1 h))
      cases hof : ofU x (moreU m.data.toList) with
      | false =>
        rw [codR_bad a1 hof] at hR2
        simp only [Option.map_none] at hR2
        subst hR2
        go_wp2_with (go_at_call 187; refine (of_st x m _ _ hg hS).mono ?_; rw [hof]; rintro e W2 ⟨rfl, hS2⟩)
        go_ret2
        exact ⟨rfl, hS2.B⟩
      | true =>
        rw [codR_ok a1 hof, Option.map_map] at hR2
        cases gk with
        | zero => omega
        | succ g =>
        go_wp2_with (first
          | (go_at_call 187; refine (of_st x m _ _ hg hS).mono ?_; rw [hof]; rintro e W2 ⟨rfl, hS2⟩)
          | (go_at_call 188; refine (wb_any x hS2 (by omega)).mono ?_; rintro e W3 ⟨rfl, hS3⟩))
        go_roundg g
        case rel => exact ⟨k + 1, b ++ [x], by first | rfl | (congr 1; omega), by omega, by omega, by simp; omega, by rw [← hR2]; congr 1; funext y; simp, hS3⟩
        case measure => omega
    case pos =>
      subst a1
      by_cases hk3 : k + 2 < s.size
      case neg =>
        have hkz2 : (s.size : Int) < (k : Int) + 3 := by omega
        rw [codR_short (by rw [List.length_drop, ← Lib.size_eq]; omega)] at hR2
        simp only [Option.map_none] at hR2
        subst hR2
        go_wp2
        go_ret2
        exact ⟨rfl, hS.B⟩
      have hkz2 : ¬ (s.size : Int) < (k : Int) + 3 := by omega
      have hkz3 : (k : Int) + 3 ≤ (s.size : Int) := by omega
      have hkz4 : (k : Int) + 1 ≤ (k : Int) + 3 := by omega
      have hkz5 : (k : Int) + 2 < (s.size : Int) := by omega
      have hkz6 : (k : Int) + 1 < (s.size : Int) := by omega
      obtain ⟨a, hak⟩ : ∃ a : UInt8, s[k + 1]'(by omega) = a := ⟨_, rfl⟩
      obtain ⟨d, hdk⟩ : ∃ d : UInt8, s[k + 2]'hk3 = d := ⟨_, rfl⟩
      have hext := ext_two s k hk3
      rw [hak, hdk] at hext
      have hal : s.data.toList[k + 1]? = some a := by rw [← hak]; exact Lib.data_getElem? s (k + 1) (by omega)
      have hdl : s.data.toList[k + 2]? = some d := by rw [← hdk]; exact Lib.data_getElem? s (k + 2) hk3
      have hdrop2 : s.data.toList.drop (k + 1) = a :: d :: s.data.toList.drop (k + 3) := by
        obtain ⟨l1, g1⟩ := List.getElem?_eq_some_iff.1 hal
        obtain ⟨l2, g2⟩ := List.getElem?_eq_some_iff.1 hdl
        rw [List.drop_eq_getElem_cons l1, List.drop_eq_getElem_cons l2, g1, g2]
      rw [hdrop2] at hR2
      have hx := hx_st a d hg hS
      by_cases hh : hxB a = true ∧ hxB d = true
      case neg =>
        rw [codR_nohex hh] at hR2
        rw [if_neg hh, if_neg hh] at hx
        simp only [Option.map_none] at hR2
        subst hR2
        go_wp2_with (go_at_call 189; rw [hext]; refine hx.mono ?_; rintro e W2 ⟨rfl, hS2⟩)
        go_ret2
        exact ⟨rfl, hS2.B⟩
      case pos =>
        rw [codR_hex hh, Option.map_map] at hR2
        rw [if_pos hh, if_pos hh] at hx
        cases gk with
        | zero => omega
        | succ g =>
        have hlt : digN a * 16 + digN d < 256 := by
          obtain ⟨g1, g2⟩ := hh
          unfold hxB at g1 g2
          simp at g1 g2
          omega
        obtain ⟨y, hy⟩ : ∃ y : UInt8, y = UInt8.ofNat (digN a * 16 + digN d) := ⟨_, rfl⟩
        have hyn : digN a * 16 + digN d = y.toNat := by rw [hy, UInt8.toNat_ofNat']; omega
        have hwrap : IntKind.u8.wrap (y.toNat : Int) = (y.toNat : Int) := wrapU8_id (by omega) (by have := y.toNat_lt; omega)
        rw [hyn] at hx
        cases hf : frU y with
        | true =>
          have hp : pctC a d = [y] := by unfold pctC; rw [← hy, if_pos hf]
          rw [hp] at hR2
          clear hy hyn hlt
          go_wp2_with (first
            | (go_at_call 189; rw [hext]; refine hx.mono ?_; rintro e W2 ⟨rfl, hS2⟩)
            | (go_at_call 187; refine (fr_st y _ _ hg hS2).mono ?_; rw [hf]; rintro e W3 ⟨rfl, hS3⟩)
            | (go_at_call 188; refine (wb_any y hS3 (by omega)).mono ?_; rintro e W4 ⟨rfl, hS4⟩))
          go_roundg g
          case rel => exact ⟨k + 3, b ++ [y], by first | rfl | (congr 1; omega), by omega, by omega, by simp; omega, by rw [← hR2]; congr 1; funext z; simp, hS4⟩
          case measure => omega
        | false =>
          have hp : pctC a d = [37, grU a, grU d] := by unfold pctC; rw [← hy, if_neg (by simp [hf])]
          rw [hp] at hR2
          clear hy hyn hlt
          go_wp2_with (first
            | (go_at_call 189; rw [hext]; refine hx.mono ?_; rintro e W2 ⟨rfl, hS2⟩)
            | (go_at_call 187; refine (fr_st y _ _ hg hS2).mono ?_; rw [hf]; rintro e W3 ⟨rfl, hS3⟩)
            | (go_at_call 188; refine (wb_any (grU d) hS7 (by simp; omega)).mono ?_; rintro e W8 ⟨rfl, hS8⟩)
            | (go_at_call 190; refine (gr_st d hg hS6).mono ?_; rintro e W7 ⟨rfl, hS7⟩)
            | (go_at_call 188; refine (wb_any (grU a) hS5 (by simp; omega)).mono ?_; rintro e W6 ⟨rfl, hS6⟩)
            | (go_at_call 190; refine (gr_st a hg hS4).mono ?_; rintro e W5 ⟨rfl, hS5⟩)
            | (go_at_call 188; refine (wb_any 37 hS3 (by omega)).mono ?_; rintro e W4 ⟨rfl, hS4⟩))
          go_roundg g
          case rel => exact ⟨k + 3, b ++ [37] ++ [grU a] ++ [grU d], by first | rfl | (congr 1; omega), by omega, by omega, by simp; omega, by rw [← hR2]; congr 1; funext z; simp, hS8⟩
          case measure => omega
theorem coded144g (s m : List UInt8) (hs : s.length ≤ 1000000) : PureC Tryz.prog 144 [.str s, .str m] (.tp [.str ((codR m s).getD []), .bool (codR m s).isSome]) := by
  refine ⟨⟨_, Tryz.func144, by kernel_rfl, by kernel_rfl⟩, fun M w vs hH hr => ?_⟩
  cases hr with
  | cons h1 hs1 =>
    cases hs1 with
    | cons h2 hs2 =>
      cases hs2; cases h1; cases h2
      have hg : GOk (memOf w) := hH.g.mono fun a i v e => hH.app a i v e
      have key := coded_gen ⟨s.toArray⟩ ⟨m.toArray⟩ w (by simpa [ByteArray.size] using hs) hg
      refine key.mono fun e w' ⟨h1, h2⟩ => ?_
      exact ⟨_, M, h1, Rep.tup (vs := [_, _]) (.cons (.sc _ rfl) (.cons (.sc _ rfl) .nil)), holds_below hH h2, Mem.le_refl _, fun _ _ => rfl, h2⟩
end Go.Av

/-! part TryzJoin -/
namespace Go.Proofs
open Go.Shelf
def Tryz.lays156_ren : Go.Shelf.Ren := ⟨fun | 156 => 193 | 165 => 236 | 166 => 237 | 169 => 191 | 240 => 234 | 241 => 257 | 276 => 255 | 277 => 261 | n => n, fun | 31 => 61 | 9 => 9 | 3 => 3 | 4 => 4 | 0 => 0 | 20 => 20 | 72 => 194 | 76 => 220 | 70 => 192 | 37 => 25 | 75 => 197 | 127 => 217 | 164 => 231 | 5 => 5 | 80 => 200 | n => n, fun | n => n⟩
theorem Tryz.lays156 : Go.Proofs.Lays.n156 Tryz.prog Tryz.lays156_ren := {
  mixed := by kernel_rfl
  f156 := Tryz.func193.trans (congrArg some (by kernel_rfl))
  f165 := Tryz.func236.trans (congrArg some (by kernel_rfl))
  f166 := Tryz.func237.trans (congrArg some (by kernel_rfl))
  f169 := Tryz.func191.trans (congrArg some (by kernel_rfl))
  f240 := Tryz.func234.trans (congrArg some (by kernel_rfl))
  f241 := Tryz.func257.trans (congrArg some (by kernel_rfl))
  f276 := Tryz.func255.trans (congrArg some (by kernel_rfl))
  f277 := Tryz.func261.trans (congrArg some (by kernel_rfl))
  t0 := Tryz.underlying0
  a0 := Tryz.isAgg0
  z0 := Tryz.sizeOf0
  v0 := Tryz.zeroValue0
  t3 := Tryz.underlying3
  a3 := Tryz.isAgg3
  z3 := Tryz.sizeOf3
  v3 := Tryz.zeroValue3
  t4 := Tryz.underlying4
  a4 := Tryz.isAgg4
  z4 := Tryz.sizeOf4
  v4 := Tryz.zeroValue4
  t9 := Tryz.underlying9
  a9 := Tryz.isAgg9
  z9 := Tryz.sizeOf9
  v9 := Tryz.zeroValue9
  t20 := Tryz.underlying20
  a20 := Tryz.isAgg20
  z20 := Tryz.sizeOf20
  v20 := Tryz.zeroValue20
  t31 := Tryz.underlying61
  a31 := Tryz.isAgg61
  z31 := Tryz.sizeOf61
  v31 := Tryz.zeroValue61
  t37 := Tryz.underlying25
  a37 := Tryz.isAgg25
  z37 := Tryz.sizeOf25
  v37 := Tryz.zeroValue25
  t70 := Tryz.underlying192
  a70 := Tryz.isAgg192
  z70 := Tryz.sizeOf192
  v70 := Tryz.zeroValue192
  t72 := Tryz.underlying194
  a72 := Tryz.isAgg194
  z72 := Tryz.sizeOf194
  v72 := Tryz.zeroValue194
  t75 := Tryz.underlying197
  a75 := Tryz.isAgg197
  z75 := Tryz.sizeOf197
  v75 := Tryz.zeroValue197
  t76 := Tryz.underlying220
  a76 := Tryz.isAgg220
  z76 := Tryz.sizeOf220
  v76 := Tryz.zeroValue220
  t127 := Tryz.underlying217
  a127 := Tryz.isAgg217
  z127 := Tryz.sizeOf217
  v127 := Tryz.zeroValue217
  t164 := Tryz.underlying231
  a164 := Tryz.isAgg231
  z164 := Tryz.sizeOf231
  v164 := Tryz.zeroValue231 }
theorem Tryz.Builder_Extra_156 : Builder.Extra Tryz.prog Tryz.lays156_ren := {
  sizeBuilder := by kernel_rfl
  liesBuilder := by kernel_rfl
  t5 := Tryz.underlying5
  a5 := Tryz.isAgg5
  z5 := Tryz.sizeOf5
  v5 := Tryz.zeroValue5
  infoByte := by kernel_rfl
  cellsByte := by kernel_rfl
  sizeByte := by kernel_rfl
  neB5 := by decide }
end Go.Proofs

/-! part Z174 -/
namespace Go.Av
open Go.Proofs Go.RowKit
set_option maxRecDepth 100000
theorem reps_strs_inv {M : Mem} : ∀ {l : List (List UInt8)} {us : List Value}, Reps M us (l.map PC.str) → us = l.map fun s => Value.string ⟨s.toArray⟩
  | [], _, .nil => rfl
  | a :: l, _, .cons h hs => by
    cases h
    rw [reps_strs_inv hs]; rfl
theorem join193 (xs : List (List UInt8)) (sep : List UInt8) (hN : xs.length ≤ 140737488355328) (hl : (Lib.join xs sep).length ≤ 140737488355328) :
    PureC Tryz.prog 193 [.sl (xs.map PC.str), .str sep] (.str (Lib.join xs sep)) := by
  refine ⟨⟨_, Tryz.func193, by kernel_rfl, by kernel_rfl⟩, fun M w vs hH hr => ?_⟩
  cases hr with
  | cons h hs =>
  cases hs with
  | cons h2 hs =>
  cases hs
  cases h2
  have noneC : ∀ (a : Option Addr), xs = [] → Calls Tryz.prog 193 #[.slice a 0 0, strV sep] w (After M w (.str (Lib.join xs sep))) := fun a hx => by
    subst hx
    refine (Any.strings_Join_none Tryz.lays156 Tryz.Builder_Extra_156 a 0 ⟨sep.toArray⟩ w).mono fun e w' ⟨h1, h2⟩ => ?_
    subst h2
    exact ⟨_, M, h1, .sc _ rfl, hH, Mem.le_refl _, fun _ _ => rfl, Below.refl _ _⟩
  generalize hz : xs.map PC.str = zs at h
  cases h with
  | nilsl => exact noneC _ (by simpa using hz)
  | sl0 a => exact noneC _ (by simpa using hz)
  | sl hn hc hm hsz hu h1c hat hrs =>
    rename_i b off n cap sz us
    subst hz
    have hus := reps_strs_inv hrs
    subst hus
    rw [cellsOf_strs] at hat
    have hn' : n = xs.length := by simpa using hn.symm
    subst hn'
    rcases Nat.eq_zero_or_pos xs.length with h0 | h0
    · have hx : xs = [] := List.eq_nil_of_length_eq_zero h0
      subst hx
      refine (Any.strings_Join_none Tryz.lays156 Tryz.Builder_Extra_156 _ cap ⟨sep.toArray⟩ w).mono fun e w' ⟨h1, h2⟩ => ?_
      subst h2
      exact ⟨_, M, h1, .sc _ rfl, hH, Mem.le_refl _, fun _ _ => rfl, Below.refl _ _⟩
    · have hcell : ∀ (j : Nat) x, (xs.map fun s => (⟨s.toArray⟩ : ByteArray))[j]? = some x → w.cell? ⟨b, off + j, none⟩ = some (.string x) := fun j x e => by
        refine hH _ _ _ (hat j _ ?_)
        rw [List.getElem?_map] at e ⊢
        cases hj : xs[j]? with
        | none => rw [hj] at e; cases e
        | some y => rw [hj] at e; simp at e; subst e; rfl
      have hb : b < w.heap.size := by
        have hx0 : xs[0]? = some xs[0] := List.getElem?_eq_getElem h0
        exact World.block_lt_of_cell? w _ (hcell 0 ⟨xs[0].toArray⟩ (by rw [List.getElem?_map, hx0]; rfl))
      have hmm : (xs.map fun s => (⟨s.toArray⟩ : ByteArray)).map (·.data.toList) = xs := by
        rw [List.map_map]
        conv => rhs; rw [← List.map_id xs]
        apply List.map_congr_left; intro a _; simp
      have key := Any.strings_Join Tryz.lays156 Tryz.Builder_Extra_156 b off cap (xs.map fun s => (⟨s.toArray⟩ : ByteArray)) ⟨sep.toArray⟩ w hcell hb (by simpa using hN) (by simpa using hc) (by rw [hmm]; simpa using hl)
      rw [hmm] at key
      simp only [List.length_map, List.toList_toArray] at key
      refine key.mono fun e w' ⟨h1, h2⟩ => ?_
      exact ⟨_, M, h1, .sc _ rfl, holds_below hH h2, Mem.le_refl _, fun _ _ => rfl, h2⟩
theorem join_joinC (c : UInt8) : ∀ xs : List (List UInt8), Lib.join xs [c] = joinC c xs
  | [] => rfl
  | [p] => by simp [Lib.join, joinC]
  | p :: q :: ps => by
    have := join_joinC c (q :: ps)
    unfold Lib.join at this ⊢
    rw [joinC, ← this]
    simp [List.intercalate]
/-- a path's pieces without . and .. -/
def segF : List (List UInt8) → List (List UInt8) → List (List UInt8)
  | out, [] => out
  | out, s :: l => segF (if s = [46] ∨ s = [46, 46] then (if l = [] then (if s = [46, 46] then out.dropLast else out) ++ [[]] else (if s = [46, 46] then out.dropLast else out)) else out ++ [s]) l
def wtL (L : List (List UInt8)) : Nat := (L.map fun s => s.length + 1).sum
theorem wtL_app (a b : List (List UInt8)) : wtL (a ++ b) = wtL a + wtL b := by simp [wtL]
theorem wtL_drop (a : List (List UInt8)) : wtL a.dropLast ≤ wtL a := by
  rcases List.eq_nil_or_concat a with h | ⟨i, x, h⟩
  · subst h; simp
  · subst h; rw [List.concat_eq_append, List.dropLast_concat, wtL_app]; omega
theorem segF_wt : ∀ (l out : List (List UInt8)), wtL (segF out l) ≤ wtL out + wtL l
  | [], out => by simp [segF, wtL]
  | s :: l, out => by
    rw [segF]
    refine Nat.le_trans (segF_wt l _) ?_
    have h1 := wtL_drop out
    have h2 : wtL (s :: l) = s.length + 1 + wtL l := by simp [wtL]
    have h3 : wtL [[]] = 1 := rfl
    split
    · rename_i hd
      have hs : 1 ≤ s.length := by rcases hd with rfl | rfl <;> simp
      split <;> split <;> (try rw [wtL_app]) <;> omega
    · rw [wtL_app]; simp [wtL] at *; omega
theorem joinC_wt (c : UInt8) : ∀ l : List (List UInt8), (joinC c l).length ≤ wtL l
  | [] => by simp [joinC]
  | [p] => by simp [joinC, wtL]
  | p :: q :: ps => by
    have := joinC_wt c (q :: ps)
    simp only [joinC, List.length_append, List.length_cons, wtL, List.map_cons, List.sum_cons] at this ⊢
    omega
theorem split_47 (t : List UInt8) : splB 47 ((47 :: t).count 47) (47 :: t) = [] :: splB 47 (t.count 47) t := by
  have hc : (47 :: t).count 47 = t.count 47 + 1 := by rw [List.count_cons]; simp
  have hx : ixB (47 :: t) 47 = 0 := by rw [ixB_cons, if_pos rfl]
  rw [hc]; simp [splB, hx]
set_option maxHeartbeats 4000000 in
theorem segments145 (t : List UInt8) (hs : t.length ≤ 100000) (hlen : (splB 47 (t.count 47) t).length ≤ 100001) (hwt : wtL (splB 47 (t.count 47) t) ≤ 100001) : PureC Tryz.prog 145 [.str (47 :: t)] (.str (47 :: joinC 47 (segF [] (splB 47 (t.count 47) t)))) := by
  refine pure_of_aw (ys := [_]) [41, 49] [] [] mixed Tryz.func145 rfl (by kernel_rfl) (by kernel_rfl) (by simp [Tryz.ntmps145]) rfl ?_
  have hsp := split51 (47 :: t) 47 (by simp; omega)
  rw [split_47 t] at hsp
  generalize splB 47 (t.count 47) t = l at *
  obtain ⟨R, hR⟩ : ∃ R, R = segF [] l := ⟨_, rfl⟩
  have hRw : wtL R ≤ 100001 := by have := segF_wt l []; rw [hR]; simp [wtL] at *; omega
  rw [← hR]
  have hRj := joinC_wt 47 R
  simp
  refine pcall_of hsp (by simp) ?_
  simp
  refine aw_loop (fun y : Nat × List (List UInt8) × List (List UInt8) => y.1 ≤ l.length ∧ R = segF y.2.1 (l.drop y.1) ∧ y.2.1.length ≤ y.1) (fun y => [(3, .p (.sl (l.map PC.str))), (4, .view 0 0 y.2.1.length 1 none), (11, .p (.sl (l.map PC.str))), (12, .p (.int l.length)), (13, .p (.int y.1))])
    (fun y => ⟨[(0, rowStr (y.2.1 ++ y.2.2))], [], 1⟩) (fun y => l.length - y.1) (0, [], []) ⟨by simp, by simpa using hR, by simp⟩ _ (le_voidS 4 9 1 (by simp [isNone])) (leN_id (by simp)) ?_
  rintro ⟨i, out, M⟩ ⟨h1, h2, h3⟩
  simp only at h1 h2 h3
  by_cases c : i < l.length
  · rw [List.drop_eq_getElem_cons c] at h2
    have wi : IntKind.i64.wrap ((i : Int) + 1) = ((i + 1 : Nat) : Int) := by rw [wrap64_id (by omega) (by omega)]; rfl
    have hlw : IntKind.i64.wrap ((l.length : Int) - 1) = (l.length : Int) - 1 := wrap64_id (by omega) (by omega)
    rw [segF] at h2
    have hE : (l.drop (i + 1) = [] ∧ ((i : Int) == IntKind.i64.wrap ((l.length : Int) - 1)) = true) ∨ (l.drop (i + 1) ≠ [] ∧ ((i : Int) == IntKind.i64.wrap ((l.length : Int) - 1)) = false) := by
      rw [hlw]
      by_cases h : l.drop (i + 1) = []
      · left; refine ⟨h, ?_⟩; rw [List.drop_eq_nil_iff] at h; simp; omega
      · right; refine ⟨h, ?_⟩; rw [List.drop_eq_nil_iff] at h; simp; omega
    by_cases sd : l[i] = [46] ∨ l[i] = [46, 46]
    · rw [if_pos sd] at h2
      have hout : ∃ o X, (if l[i] = [46, 46] then out.dropLast else out) = o ∧ o ++ X = out ++ M ∧ o.length ≤ i ∧ ((l[i] = [46, 46] ∧ ∃ x, out = o ++ [x] ∧ X = x :: M) ∨ (o = out ∧ X = M ∧ (l[i] = [46, 46] → out = []))) := by
        by_cases s2 : l[i] = [46, 46]
        · rcases List.eq_nil_or_concat out with h | ⟨o, x, h⟩
          · subst h; exact ⟨[], M, by simp, by simp, by simp, .inr ⟨rfl, rfl, fun _ => rfl⟩⟩
          · rw [List.concat_eq_append] at h
            subst h
            simp at h3
            exact ⟨o, x :: M, by simp [s2], by simp, by omega, .inl ⟨s2, x, rfl, rfl⟩⟩
        · exact ⟨out, M, by rw [if_neg s2], rfl, h3, .inr ⟨rfl, rfl, fun h => absurd h s2⟩⟩
      obtain ⟨o, X, ho, hrow, hol, hcase⟩ := hout
      rw [ho] at h2
      have e3 : (l[i] == [46] || l[i] == [46, 46]) = true := by rcases sd with h | h <;> rw [h] <;> decide
      have hw2 : IntKind.i64.wrap (o.length : Int) = (o.length : Int) := wrap64_id (by omega) (by omega)
      have hp : (0 : Int) < (o.length : Int) + 1 := by omega
      have hol2 : (o.length : Int) + 1 - 1 = (o.length : Int) := by omega
      rcases hE with ⟨hn, hl2⟩ | ⟨hn, hl2⟩
      · rw [if_pos hn] at h2
        rcases hcase with ⟨s2, x, rfl, rfl⟩ | ⟨rfl, rfl, hs2⟩
        · have e1 : (l[i] == [46]) = false := by rw [s2]; decide
          have e2 : (l[i] == [46, 46]) = true := by rw [s2]; decide
          simp [c, e1, e2, hol2, hw2, hp, hl2, wi]
          exact ⟨by omega, by omega, i + 1, o ++ [[]], ⟨by omega, h2, by simp; omega⟩, by omega, [], leN_of [(0, 1)] (by simp; exact List.prefix_refl _)⟩
        · by_cases s2 : l[i] = [46, 46]
          · have e1 : (l[i] == [46]) = false := by rw [s2]; decide
            have e2 : (l[i] == [46, 46]) = true := by rw [s2]; decide
            have := hs2 s2
            subst this
            simp [c, e1, e2, hl2, wi]
            exact ⟨i + 1, [[]], ⟨by omega, h2, by simp⟩, by omega, [], leN_of [(0, 1)] (by simp; exact List.prefix_refl _)⟩
          · have s1 := sd.resolve_right s2
            have e1 : (l[i] == [46]) = true := by rw [s1]; decide
            have e2 : (l[i] == [46, 46]) = false := by rw [s1]; decide
            simp [c, e1, e2, hl2, wi]
            exact ⟨by omega, by omega, i + 1, o ++ [[]], ⟨by omega, h2, by simp; omega⟩, by omega, [], leN_of [(0, 1)] (by simp; exact List.prefix_refl _)⟩
      · rw [if_neg hn] at h2
        rcases hcase with ⟨s2, x, rfl, rfl⟩ | ⟨rfl, rfl, hs2⟩
        · have e1 : (l[i] == [46]) = false := by rw [s2]; decide
          have e2 : (l[i] == [46, 46]) = true := by rw [s2]; decide
          simp [c, e1, e2, hol2, hw2, hp, hl2, wi]
          exact ⟨i + 1, o, ⟨by omega, h2, by omega⟩, by omega, x :: M, leN_id (by simp)⟩
        · by_cases s2 : l[i] = [46, 46]
          · have e1 : (l[i] == [46]) = false := by rw [s2]; decide
            have e2 : (l[i] == [46, 46]) = true := by rw [s2]; decide
            have := hs2 s2
            subst this
            simp [c, e1, e2, hl2, wi]
            exact ⟨i + 1, [], ⟨by omega, h2, by simp⟩, by omega, X, leN_id (by simp)⟩
          · have s1 := sd.resolve_right s2
            have e1 : (l[i] == [46]) = true := by rw [s1]; decide
            have e2 : (l[i] == [46, 46]) = false := by rw [s1]; decide
            simp [c, e1, e2, hl2, wi]
            exact ⟨i + 1, o, ⟨by omega, h2, by omega⟩, by omega, X, leN_id (by simp)⟩
    · rw [if_neg sd] at h2
      have e1 : (l[i] == [46]) = false := by simpa using fun h => sd (.inl h)
      have e2 : (l[i] == [46, 46]) = false := by simpa using fun h => sd (.inr h)
      simp [c, e1, e2, wi]
      exact ⟨by omega, by omega, i + 1, out ++ [l[i]], ⟨by omega, h2, by simp; omega⟩, by omega, [], leN_of [(0, 1)] (by simp; exact List.prefix_refl _)⟩
  · obtain rfl : i = l.length := by omega
    rw [List.drop_length] at h2
    simp only [segF] at h2
    subst h2
    have hj := join193 R [47] (by omega) (by rw [join_joinC]; omega)
    rw [join_joinC] at hj
    simp
    refine bcall_of0 hj ⟨bor_str (M := M) (by simp [lk]), ⟨_, rfl, .inl rfl⟩, trivial⟩ rfl ?_
    simp [Tryz.results145]
    omega
end Go.Av

/-! part Z175 -/
namespace Go.Av
open Go.Proofs
set_option maxRecDepth 100000
def subS : List UInt8 := [33, 36, 38, 39, 40, 41, 42, 43, 44, 59, 61, 58, 64, 47]
def qryM (q : Bool) : List UInt8 := if q = true then [63] else []
theorem okU_eq (q : Bool) (c : UInt8) : ofU c (moreU (qryM q)) = (frU c || decide (c ∈ subS) || (q && decide (c = 63))) := by
  cases q
  · exact u8_all (p := fun c => ofU c (moreU (qryM false)) = (frU c || decide (c ∈ subS) || (false && decide (c = 63)))) (by decide +kernel) c
  · exact u8_all (p := fun c => ofU c (moreU (qryM true)) = (frU c || decide (c ∈ subS) || (true && decide (c = 63)))) (by decide +kernel) c
def dG : List UInt8 := [48, 49, 50, 51, 52, 53, 54, 55, 56, 57, 65, 66, 67, 68, 69, 70]
theorem dG_at (c : UInt8) (h : hxB c = true) : dG[digN c]? = some (grU c) :=
  u8_all (p := fun c => hxB c = true → dG[digN c]? = some (grU c)) (by decide +kernel) c h
theorem hx_cases (c : UInt8) : (hxB c = true ∧ digN c < 16) ∨ (hxB c = false ∧ digN c = 99) := by
  have hdg : digN c < 16 ∨ digN c = 99 := by unfold digN; split; omega; split; omega; split; omega; omega
  unfold hxB
  rcases hdg with h | h
  · left; simp [h]
  · right; simp [h]
theorem bytes_app (a b : List UInt8) : bytesPC (a ++ b) = bytesPC a ++ bytesPC b := by simp [bytesPC]
set_option maxHeartbeats 8000000 in
theorem rcoded196 (s : List UInt8) (q : Bool) (hs : s.length ≤ 1000000) : PureC Tryz.prog 196 [.str s, .bool q] (.tp [.str ((codR (qryM q) s).getD []), .bool (codR (qryM q) s).isSome]) := by
  refine pure_of_aw (ys := [_, _]) [] [(13, [(10, .f [])])] [] mixed Tryz.func196 rfl (by kernel_rfl) (by kernel_rfl) (by simp [Tryz.ntmps196]) rfl ?_
  generalize hR : codR (qryM q) s = R
  simp
  refine aw_loop (fun y : Nat × List UInt8 => y.1 ≤ s.length ∧ y.2.length ≤ y.1 ∧ (codR (qryM q) (s.drop y.1)).map (y.2 ++ ·) = R) (fun y => [(0, .p (.str s)), (1, .p (.bool q)), (6, .own 0 (bytesPC y.2)), (7, .p (.int y.1))]) (fun y => ⟨[], [(0, 5, 1)], 1⟩) (fun y => s.length - y.1) (0, []) ⟨by simp, by simp, by simp [hR]⟩ _
    (le_own 6 5 1 [] (.inr ⟨rfl, by simp⟩)) (leN_id (by simp [bytesPC])) ?_
  rintro ⟨k, b⟩ ⟨h1, h3, h2⟩
  simp only at h1 h2 h3
  by_cases c : k < s.length
  case neg =>
    obtain rfl : k = s.length := by omega
    rw [List.drop_length] at h2
    simp only [codR, Option.map_some, List.append_nil] at h2
    subst h2
    simp [Tryz.results196]
  have hw : ∀ y ∈ bytesPC b, y.width = 1 := fun y hy => bytes_width y hy
  have w1 := wrap64_id (n := (k : Int) + 1) (by omega) (by omega)
  have w2 := wrap64_id (n := (k : Int) + 2) (by omega) (by omega)
  have w3 := wrap64_id (n := (k : Int) + 2 + 1) (by omega) (by omega)
  rw [List.drop_eq_getElem_cons c] at h2
  by_cases c37 : s[k] = 37
  · have e37 : ((s[k].toNat : Int) == 37) = true := by rw [c37]; rfl
    rw [c37] at h2
    by_cases ck : k + 2 < s.length
    case neg =>
      rw [codR_short (by simp; omega)] at h2
      simp only [Option.map_none] at h2
      subst h2
      have d2 : (s.length : Int) ≤ (k : Int) + 2 := by omega
      simp [c, e37, w2, d2, Tryz.results196]
    have d2 : ¬ (s.length : Int) ≤ (k : Int) + 2 := by omega
    have d2' : ¬ s.length ≤ k + 2 := by omega
    have ck1 : k + 1 < s.length := by omega
    have hdrop : s.drop (k + 1) = s[k + 1] :: s[k + 2] :: s.drop (k + 3) := by
      rw [List.drop_eq_getElem_cons ck1, List.drop_eq_getElem_cons ck]
    rw [hdrop] at h2
    have p1 : (0 : Int) ≤ (k : Int) + 1 := by omega
    have p2 : (0 : Int) ≤ (k : Int) + 2 := by omega
    have t2 : ((k : Int) + 2).toNat = k + 2 := by omega
    simp [c, e37, w1, w2, d2, d2', ck, ck1, p1, p2]
    refine pcall_of (hexa238 s[k + 1]) (by simp [u8P]) ?_
    rcases hx_cases s[k + 1] with ⟨x1, x2⟩ | ⟨x1, x2⟩
    case inr =>
      rw [codR_nohex (by simp [x1])] at h2
      simp only [Option.map_none] at h2
      subst h2
      simp [x2, Tryz.results196]
    have n1 : ((digN s[k + 1] : Int) == 99) = false := by simp; omega
    simp [n1, w1, w2, ck, ck1, p1, p2, t2]
    refine pcall_of (hexa238 s[k + 2]) (by simp [u8P]) ?_
    rcases hx_cases s[k + 2] with ⟨y1, y2⟩ | ⟨y1, y2⟩
    case inr =>
      rw [codR_nohex (by simp [y1])] at h2
      simp only [Option.map_none] at h2
      subst h2
      simp [y2, Tryz.results196]
    have n2 : ((digN s[k + 2] : Int) == 99) = false := by simp; omega
    rw [codR_hex ⟨x1, y1⟩] at h2
    simp [n2, w1, w2, ck, ck1, p1, p2, t2]
    have hlt : 16 * digN s[k + 1] + digN s[k + 2] < 256 := by omega
    obtain ⟨y, hy⟩ : ∃ y : UInt8, y = UInt8.ofNat (digN s[k + 1] * 16 + digN s[k + 2]) := ⟨_, rfl⟩
    have hyn : y.toNat = 16 * digN s[k + 1] + digN s[k + 2] := by rw [hy, UInt8.toNat_ofNat']; omega
    have m1 : IntKind.i64.wrap (16 * (digN s[k + 1] : Int)) = 16 * (digN s[k + 1] : Int) := wrap64_id (by omega) (by omega)
    have m2 : IntKind.i64.wrap (16 * (digN s[k + 1] : Int) + (digN s[k + 2] : Int)) = (y.toNat : Int) := by rw [wrap64_id (by omega) (by omega)]; omega
    have m3 : IntKind.u8.wrap (y.toNat : Int) = (y.toNat : Int) := wrapU8_id (by omega) (by omega)
    have m4 : IntKind.i64.wrap ((y.toNat : Int) / 16) = (digN s[k + 1] : Int) := by rw [wrap64_id (by omega) (by omega)]; omega
    have m5 : IntKind.i64.wrap ((y.toNat : Int) % 16) = (digN s[k + 2] : Int) := by rw [wrap64_id (by omega) (by omega)]; omega
    have m6 : ((y.toNat : Int) / 16) = (digN s[k + 1] : Int) := by omega
    have m7 : ((y.toNat : Int) % 16) = (digN s[k + 2] : Int) := by omega
    have g1 := dG_at _ x1
    have g2 := dG_at _ y1
    unfold dG at g1 g2
    refine call_of (hexa238 s[k + 1]) ?_
    simp [m1, w1, w2, ck, ck1, p1, p2, t2]
    refine call_of (hexa238 s[k + 2]) ?_
    simp [m2, m3]
    refine pcall_of (free239 y) (by simp [u8P]) ?_
    cases hf : frU y with
    | true =>
      have hp : pctC s[k + 1] s[k + 2] = [y] := by unfold pctC; rw [← hy, if_pos hf]
      rw [hp, Option.map_map] at h2
      simp [m3, hw, w2, w3]
      exact ⟨hw, by omega, by omega, k + 3, b ++ [y], ⟨by omega, by simp; omega, by rw [← h2]; congr 1; funext z; simp⟩, by omega, leN_of [(0, 1)] (by simp [← bytes_snoc]; omega)⟩
    | false =>
      have hp : pctC s[k + 1] s[k + 2] = [37, grU s[k + 1], grU s[k + 2]] := by unfold pctC; rw [← hy, if_neg (by simp [hf])]
      rw [hp, Option.map_map] at h2
      have m8 : IntKind.i64.wrap (digN s[k + 1] : Int) = (digN s[k + 1] : Int) := wrap64_id (by omega) (by omega)
      have m9 : IntKind.i64.wrap (digN s[k + 2] : Int) = (digN s[k + 2] : Int) := wrap64_id (by omega) (by omega)
      have m10 : (y.toNat : Int).tmod 16 = (digN s[k + 2] : Int) := by rw [Int.tmod_eq_emod_of_nonneg (by omega)]; omega
      simp [m3, hw, w2, w3, m4, m5, m6, m7, m8, m9, m10, g1, g2]
      exact ⟨hw, by omega, by omega, k + 3, b ++ [37, grU s[k + 1], grU s[k + 2]], ⟨by omega, by simp; omega, by rw [← h2]; congr 1; funext z; simp⟩, by omega, leN_of [(0, 1)] (by simp [bytes_app, bytesPC]; omega)⟩
  · have e37 : ((s[k].toNat : Int) == 37) = false := by simpa using fun h => c37 (UInt8.toNat_inj.1 (Int.ofNat_inj.1 h))
    have hok := okU_eq q s[k]
    simp [c, e37]
    refine pcall_of (free239 s[k]) (by simp [u8P]) ?_
    cases h4 : frU s[k] with
    | true =>
      rw [h4] at hok
      rw [codR_ok c37 (by rw [hok]; rfl), Option.map_map] at h2
      simp [hw]
      exact ⟨hw, by omega, by omega, k + 1, b ++ [s[k]], ⟨by omega, by simp; omega, by rw [← h2]; congr 1; funext z; simp⟩, by omega, leN_of [(0, 1)] (by simp [w1, ← bytes_snoc])⟩
    | false =>
      rw [h4] at hok
      simp
      refine pcall_of (among240 s[k] subS (by decide)) (by simp [u8P, subS]) ?_
      by_cases h5 : s[k] ∈ subS
      · rw [decide_eq_true h5] at hok
        rw [codR_ok c37 (by rw [hok]; rfl), Option.map_map] at h2
        simp [h5, hw]
        exact ⟨hw, by omega, by omega, k + 1, b ++ [s[k]], ⟨by omega, by simp; omega, by rw [← h2]; congr 1; funext z; simp⟩, by omega, leN_of [(0, 1)] (by simp [w1, ← bytes_snoc])⟩
      · rw [decide_eq_false h5] at hok
        cases q with
        | false =>
          rw [codR_bad c37 (by rw [hok]; rfl)] at h2
          simp only [Option.map_none] at h2
          subst h2
          simp [h5, Tryz.results196]
        | true =>
          by_cases h6 : s[k] = 63
          · have e6 : ((s[k].toNat : Int) == 63) = true := by rw [h6]; rfl
            rw [codR_ok c37 (by rw [hok, h6]; rfl), Option.map_map] at h2
            simp [h5, e6, hw]
            exact ⟨hw, by omega, by omega, k + 1, b ++ [s[k]], ⟨by omega, by simp; omega, by rw [← h2]; congr 1; funext z; simp⟩, by omega, leN_of [(0, 1)] (by simp [w1, ← bytes_snoc])⟩
          · have e6 : ((s[k].toNat : Int) == 63) = false := by simpa using fun h => h6 (UInt8.toNat_inj.1 (Int.ofNat_inj.1 h))
            rw [codR_bad c37 (by rw [hok]; simp [h6])] at h2
            simp only [Option.map_none] at h2
            subst h2
            simp [h5, e6, Tryz.results196]
end Go.Av

/-! part Z176 -/
namespace Go.Av
open Go.Proofs
set_option maxRecDepth 100000
/-- pieces, each behind a slash -/
def absC (L : List (List UInt8)) : List UInt8 := L.flatMap fun s => 47 :: s
theorem absC_cons (s : List UInt8) (L : List (List UInt8)) : absC (s :: L) = 47 :: (s ++ absC L) := by simp [absC]
theorem absC_app (a b : List (List UInt8)) : absC (a ++ b) = absC a ++ absC b := by simp [absC]
theorem absC_join : ∀ L : List (List UInt8), L ≠ [] → absC L = 47 :: joinC 47 L
  | [], h => absurd rfl h
  | [p], _ => by simp [absC, joinC]
  | p :: q :: ps, _ => by
    have := absC_join (q :: ps) (by simp)
    rw [absC_cons, this]; simp [joinC]
theorem segF_ne : ∀ (l out : List (List UInt8)), l ≠ [] → segF out l ≠ []
  | [], _, h => absurd rfl h
  | [s], out, _ => by
    rw [segF, segF]; split <;> simp
  | s :: q :: l, out, _ => by
    rw [segF]; exact segF_ne (q :: l) _ (by simp)
theorem fst_split (c : UInt8) : ∀ t : List UInt8, c ∈ t → ∃ a b, t = a ++ c :: b ∧ c ∉ a
  | [], h => by simp at h
  | x :: t, h => by
    by_cases e : x = c
    · exact ⟨[], t, by rw [e]; rfl, by simp⟩
    · obtain ⟨a, b, h1, h2⟩ := fst_split c t ((List.mem_cons.1 h).resolve_left (Ne.symm e))
      exact ⟨x :: a, b, by rw [h1]; rfl, by simp [Ne.symm e, h2]⟩
/-- what a cut gives, joined again -/
theorem spl_absC : ∀ (n : Nat) (t : List UInt8), n = t.count 47 → absC (splB 47 n t) = 47 :: t ∧ (∀ s ∈ splB 47 n t, 47 ∉ s) ∧ (splB 47 n t).length = n + 1
  | 0, t, h => by
    have : 47 ∉ t := by intro hm; have := List.count_pos_iff.2 hm; omega
    refine ⟨by simp [splB, absC], ?_, by simp [splB]⟩
    intro s hs
    simp [splB] at hs
    subst hs; exact this
  | n + 1, t, h => by
    have hm : 47 ∈ t := List.count_pos_iff.1 (by omega)
    obtain ⟨a, b, rfl, ha⟩ := fst_split 47 t hm
    have hc : n = b.count 47 := by
      rw [List.count_append, List.count_eq_zero.2 ha, List.count_cons] at h
      simp at h; omega
    obtain ⟨i1, i2, i3⟩ := spl_absC n b hc
    rw [spl_step b n ha]
    refine ⟨by rw [absC_cons, i1], ?_, by simp [i3]⟩
    intro s hs
    rcases List.mem_cons.1 hs with rfl | hs
    · exact ha
    · exact i2 s hs
theorem absC_len : ∀ L : List (List UInt8), (absC L).length = wtL L
  | [] => rfl
  | s :: L => by
    have := absC_len L
    rw [absC_cons]; simp [wtL] at *; omega
theorem spl_wt (t : List UInt8) : wtL (splB 47 (t.count 47) t) = t.length + 1 := by
  rw [← absC_len, (spl_absC _ t rfl).1]; simp
theorem segments145g (t : List UInt8) (hs : t.length ≤ 100000) : PureC Tryz.prog 145 [.str (47 :: t)] (.str (absC (segF [] (splB 47 (t.count 47) t)))) := by
  have hn : splB 47 (t.count 47) t ≠ [] := by
    intro e
    have := (spl_absC _ t rfl).2.2
    rw [e] at this; simp at this
  have hl : (splB 47 (t.count 47) t).length ≤ 100001 := by
    rw [(spl_absC _ t rfl).2.2]
    have := List.count_le_length (a := (47 : UInt8)) (l := t)
    omega
  have h := segments145 t hs hl (by rw [spl_wt]; omega)
  rw [← absC_join _ (segF_ne _ _ hn)] at h
  exact h
theorem absC_end (s : List UInt8) (rem : List (List UInt8)) (e : Nat) (h1 : 1 ≤ e) (h2 : e ≤ 1 + s.length) (hs : 47 ∉ s) :
    (e < 1 + s.length ∧ ∃ c, c ≠ 47 ∧ (absC (s :: rem))[e]? = some c) ∨ (e = 1 + s.length ∧ (rem = [] ∧ (absC (s :: rem)).length = e ∨ (absC (s :: rem))[e]? = some 47)) := by
  rw [absC_cons]
  rcases Nat.lt_or_ge e (1 + s.length) with h | h
  · left
    refine ⟨h, s[e - 1]'(by omega), ?_, ?_⟩
    · intro hc; exact hs (hc ▸ List.getElem_mem _)
    · obtain ⟨k, rfl⟩ : ∃ k, e = k + 1 := ⟨e - 1, by omega⟩
      rw [List.getElem?_cons_succ, List.getElem?_append_left (by omega), List.getElem?_eq_getElem (by omega)]; simp
  · right
    obtain rfl : e = 1 + s.length := by omega
    refine ⟨rfl, ?_⟩
    match rem with
    | [] => left; simp [absC]; omega
    | q :: rem =>
      right
      rw [Nat.add_comm, List.getElem?_cons_succ, List.getElem?_append_right (Nat.le_refl _), absC_cons]; simp
theorem absC_last (o : List (List UInt8)) (x : List UInt8) (hx : 47 ∉ x) (k : Nat) (h1 : (absC o).length + 1 ≤ k) (h2 : k ≤ (absC (o ++ [x])).length) :
    ((absC o).length + 1 < k ∧ ∃ c, c ≠ 47 ∧ (absC (o ++ [x]))[k - 1]? = some c) ∨ (k = (absC o).length + 1 ∧ (absC (o ++ [x]))[k - 1]? = some 47) := by
  have e1 : absC [x] = 47 :: x := by simp [absC]
  rw [absC_app, e1] at h2 ⊢
  simp only [List.length_append, List.length_cons] at h2
  rcases Nat.lt_or_ge ((absC o).length + 1) k with h | h
  · left
    obtain ⟨j, rfl⟩ : ∃ j, k = (absC o).length + 1 + (j + 1) := ⟨k - (absC o).length - 2, by omega⟩
    have hj : j < x.length := by omega
    refine ⟨h, x[j], fun hc => hx (hc ▸ List.getElem_mem _), ?_⟩
    rw [List.getElem?_append_right (by omega), show (absC o).length + 1 + (j + 1) - 1 - (absC o).length = j + 1 by omega, List.getElem?_cons_succ, List.getElem?_eq_getElem hj]
  · right
    obtain rfl : k = (absC o).length + 1 := by omega
    exact ⟨rfl, by rw [List.getElem?_append_right (by omega)]; simp⟩
theorem absC_nil (L : List (List UInt8)) : (absC L).isEmpty = decide (L = []) := by
  cases L with
  | nil => rfl
  | cons s L => rw [absC_cons]; simp
set_option maxHeartbeats 8000000 in
theorem rdots197 (l : List (List UInt8)) (hl : ∀ s ∈ l, 47 ∉ s) (hw : (absC l).length ≤ 200000) : PureC Tryz.prog 197 [.str (absC l)] (.str (absC (segF [] l))) := by
  refine pure_of_aw (ys := [_]) [] [] [] mixed Tryz.func197 rfl (by kernel_rfl) (by kernel_rfl) (by simp [Tryz.ntmps197]) rfl ?_
  obtain ⟨R, hR⟩ : ∃ R, R = segF [] l := ⟨_, rfl⟩
  rw [← hR]
  simp
  refine aw_loop0 (fun y : List (List UInt8) × List (List UInt8) => R = segF y.2 y.1 ∧ (∀ s ∈ y.1, 47 ∉ s) ∧ (∀ s ∈ y.2, 47 ∉ s) ∧ (absC y.1).length + (absC y.2).length ≤ 200000) (fun y => [(0, .p (.str (absC y.1))), (3, .p (.str (absC y.2)))]) (fun y => y.1.length) (l, []) ⟨hR, hl, by simp, by simp [absC] at *; omega⟩ (leN_id (by simp [absC])) ?_
  rintro ⟨rem, out⟩ ⟨g1, g2, g3, g4⟩
  simp only at g1 g2 g3 g4
  match rem, g1, g2, g4 with
  | [], g1, g2, g4 =>
    rw [segF] at g1
    subst g1
    simp [absC, Tryz.results197]
  | s :: rem, g1, g2, g4 =>
    have hs := g2 s (by simp)
    have hne : (absC (s :: rem) != []) = true := by rw [absC_cons]; rfl
    have hal : (absC (s :: rem)).length = 1 + s.length + (absC rem).length := by rw [absC_cons]; simp; omega
    have htk : (absC (s :: rem)).take (1 + s.length) = 47 :: s := by rw [absC_cons, Nat.add_comm]; simp
    have hdr : (absC (s :: rem)).drop (1 + s.length) = absC rem := by rw [absC_cons, Nat.add_comm]; simp
    have hend := fun e h1 h2 => absC_end s rem e h1 h2 hs
    simp only
    generalize absC (s :: rem) = inn at *
    simp [hne]
    refine aw_loop0 (fun e : Nat => 1 ≤ e ∧ e ≤ 1 + s.length) (fun e => [(0, .p (.str inn)), (3, .p (.str (absC out))), (4, .p (.int e))]) (fun e => 1 + s.length - e) 1 ⟨by omega, by omega⟩ (leN_id (by simp)) ?_
    rintro e ⟨h1, h2⟩
    rcases hend e h1 h2 with ⟨he, c, hc, hce⟩ | ⟨rfl, hx⟩
    · have hlt : e < inn.length := by omega
      have hc' : ((c.toNat : Int) != 47) = true := by simpa using fun h => hc (UInt8.toNat_inj.1 (Int.ofNat_inj.1 h))
      have we : IntKind.i64.wrap ((e : Int) + 1) = ((e + 1 : Nat) : Int) := by rw [wrap64_id (by omega) (by omega)]; rfl
      have hgc : inn[e] = c := (List.getElem_eq_iff hlt).2 hce
      simp [hlt, hce, hc', hgc, we]
      exact ⟨e + 1, ⟨by omega, by omega⟩, by omega, leN_id (by simp)⟩
    have hle : 1 + s.length ≤ inn.length := by omega
    have hcond : (¬ 1 + s.length < inn.length) ∨ ∃ hlt : 1 + s.length < inn.length, inn[1 + s.length]'hlt = 47 := by
      rcases hx with ⟨_, h⟩ | h
      · left; omega
      · right; obtain ⟨l1, l2⟩ := List.getElem?_eq_some_iff.1 h; exact ⟨l1, l2⟩
    have g1' : R = segF (if s = [46] ∨ s = [46, 46] then (if rem = [] then (if s = [46, 46] then out.dropLast else out) ++ [[]] else (if s = [46, 46] then out.dropLast else out)) else out ++ [s]) rem := by rw [g1, segF]
    have hcast : ((1 + s.length : Nat) : Int) = 1 + (s.length : Int) := by omega
    have hnn : (0 : Int) ≤ 1 + (s.length : Int) := by omega
    have htn : (1 + (s.length : Int)).toNat = 1 + s.length := by omega
    have hlI : (1 : Int) + (s.length : Int) ≤ (inn.length : Int) := by omega
    have hrl : (absC rem).length ≤ 200000 := by omega
    have hrem := absC_nil rem
    have hg2 : ∀ s ∈ rem, 47 ∉ s := fun q hq => g2 q (by simp [hq])
    have hw0 : inn.length = 1 + s.length + (absC rem).length := hal
    rcases hcond with hc | ⟨hlt, hc⟩
    all_goals
      first
        | (have hcI : ¬ (1 : Int) + (s.length : Int) < (inn.length : Int) := by omega
           simp [hc, hcI, hle, htk, hdr, hlI, hnn, htn])
        | (have hcI : (1 : Int) + (s.length : Int) < (inn.length : Int) := by omega
           simp [hc, hcI, hlt, hle, htk, hdr, hlI, hnn, htn])
    all_goals
      by_cases s2 : s = [46, 46]
      · have e1 : (s == [46]) = false := by rw [s2]; decide
        have e2 : (s == [46, 46]) = true := by rw [s2]; decide
        rw [if_pos (.inr s2), if_pos s2] at g1'
        simp [e1, e2]
        rcases List.eq_nil_or_concat out with h | ⟨o, x, h⟩
        · subst h
          have hz : absC [] = [] := rfl
          rw [hz]
          simp
          refine aw_loop0 (fun k : Nat => k = 0) (fun k => [(0, .p (.str (absC rem))), (3, .p (.str [])), (6, .p (.int k))]) (fun k => k) 0 rfl (leN_id (by simp)) ?_
          rintro k rfl
          simp
          by_cases hr : rem = []
          · rw [if_pos hr] at g1'
            rw [decide_eq_true hr] at hrem
            simp [hrem]
            exact ⟨rem, [[]], ⟨g1', hg2, by simp, by show (absC rem).length + 1 ≤ 200000; omega⟩, by simp, leN_id (by simp [absC])⟩
          · rw [if_neg hr] at g1'
            rw [decide_eq_false hr] at hrem
            simp [hrem]
            exact ⟨rem, [], ⟨g1', hg2, by simp, by show (absC rem).length + 0 ≤ 200000; omega⟩, by simp, leN_id (by simp [absC])⟩
        · rw [List.concat_eq_append] at h
          subst h
          have hx47 := g3 x (by simp)
          have hAl := absC_last o x hx47
          have htA : (absC (o ++ [x])).take (absC o).length = absC o := by rw [absC_app]; simp
          have hOl : (absC (o ++ [x])).length = (absC o).length + 1 + x.length := by rw [absC_app]; simp [absC]; omega
          have ho3 : ∀ s ∈ o, 47 ∉ s := fun q hq => g3 q (by simp [hq])
          have hdl : (o ++ [x]).dropLast = o := by simp
          rw [hdl] at g1'
          have hab : absC (o ++ [[]]) = absC o ++ [47] := by rw [absC_app]; rfl
          generalize hOO : absC (o ++ [x]) = O at *
          generalize hAA : absC o = A at *
          refine aw_loop0 (fun k : Nat => A.length + 1 ≤ k ∧ k ≤ O.length) (fun k => [(0, .p (.str (absC rem))), (3, .p (.str O)), (6, .p (.int k))]) (fun k => k) O.length ⟨by omega, by omega⟩ (leN_id (by simp)) ?_
          rintro k ⟨k1, k2⟩
          have kp : (0 : Int) < (k : Int) := by omega
          have kp' : 0 < k := by omega
          have kw : IntKind.i64.wrap ((k : Int) - 1) = ((k - 1 : Nat) : Int) := by rw [wrap64_id (by omega) (by omega)]; omega
          have kl : k - 1 < O.length := by omega
          rcases hAl k k1 k2 with ⟨k3, c, c1, c2⟩ | ⟨rfl, c2⟩
          · have hgc : O[k - 1] = c := (List.getElem_eq_iff kl).2 c2
            have hc' : ((c.toNat : Int) != 47) = true := by simpa using fun h => c1 (UInt8.toNat_inj.1 (Int.ofNat_inj.1 h))
            simp [kp, kp', kw, kl, hgc, hc']
            exact ⟨k - 1, ⟨by omega, by omega⟩, by omega, leN_id (by simp)⟩
          · have hgc : O[A.length] = 47 := (List.getElem_eq_iff (by omega)).2 (by simpa using c2)
            have kw2 : IntKind.i64.wrap (A.length : Int) = (A.length : Int) := wrap64_id (by omega) (by omega)
            have kl2 : A.length < O.length := by omega
            have kl3 : A.length ≤ O.length := by omega
            have kp2 : (0 : Int) < (A.length : Int) + 1 := by omega
            simp [kp2, kw2, kl2, hgc]
            by_cases hr : rem = []
            · rw [if_pos hr] at g1'
              rw [decide_eq_true hr] at hrem
              simp [hrem, kl3, htA, kp2, kw2]
              refine ⟨by omega, rem, o ++ [[]], ⟨g1', hg2, ?_, by rw [hab]; simp; omega⟩, by simp, leN_id (by simp [hab])⟩
              intro q hq
              rcases List.mem_append.1 hq with hq | hq
              · exact ho3 q hq
              · simp at hq; subst hq; simp
            · rw [if_neg hr] at g1'
              rw [decide_eq_false hr] at hrem
              simp [hrem, kl3, htA, kp2, kw2]
              exact ⟨rem, o, ⟨g1', hg2, ho3, by rw [hAA]; omega⟩, by simp, leN_id (by simp [hAA])⟩
      · have e2 : (s == [46, 46]) = false := by simpa using s2
        by_cases s1 : s = [46]
        · have e1 : (s == [46]) = true := by rw [s1]; decide
          rw [if_pos (.inl s1), if_neg s2] at g1'
          have hab : absC (out ++ [[]]) = absC out ++ [47] := by rw [absC_app]; rfl
          simp [e1, e2]
          by_cases hr : rem = []
          · rw [if_pos hr] at g1'
            rw [decide_eq_true hr] at hrem
            simp [hrem]
            refine ⟨by omega, rem, out ++ [[]], ⟨g1', hg2, ?_, by rw [hab]; simp; omega⟩, by simp, leN_id (by simp [hab])⟩
            intro q hq
            rcases List.mem_append.1 hq with hq | hq
            · exact g3 q hq
            · simp at hq; subst hq; simp
          · rw [if_neg hr] at g1'
            rw [decide_eq_false hr] at hrem
            simp [hrem]
            exact ⟨rem, out, ⟨g1', hg2, g3, by omega⟩, by simp, leN_id (by simp)⟩
        · have e1 : (s == [46]) = false := by simpa using s1
          rw [if_neg (by simp [s1, s2])] at g1'
          have hab : absC (out ++ [s]) = absC out ++ 47 :: s := by rw [absC_app]; simp [absC]
          simp [e1, e2]
          refine ⟨by omega, rem, out ++ [s], ⟨g1', hg2, ?_, by rw [hab]; simp; omega⟩, by simp, leN_id (by simp [hab])⟩
          intro q hq
          rcases List.mem_append.1 hq with hq | hq
          · exact g3 q hq
          · simp at hq; subst hq; exact hs
end Go.Av
