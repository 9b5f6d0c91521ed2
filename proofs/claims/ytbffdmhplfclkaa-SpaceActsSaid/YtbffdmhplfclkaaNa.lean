/- What slices.Delete, Insert and a search compute over a row of extents, and what is put into it and cut out of it. -/
import Derived.Test.YtbffdmhplfclkaaTf
set_option linter.all false
/-! part P16a -/
namespace Go.Av
open Go.Proofs
theorem mixed : Try.prog.follows .mixedOrders = true := by kernel_rfl
theorem can_45 : CanCall Try.prog 45 := ⟨Try.f45, Try.func45, by kernel_rfl, by kernel_rfl⟩

set_option maxHeartbeats 1000000 in
theorem delete45 (nx id : Nat) (hid : id < nx) (cs : List PC) (n i j : Nat) (hn : cs.length = n * 2) (hij : i ≤ j) (hj : j ≤ n) (hb : n ≤ 1000000000000) :
    GenC Try.prog 45 [.view id 0 n 2 none, .p (.int i), .p (.int j)] ⟨[(id, ⟨29, 2, cs.map .p⟩)], [], nx⟩
      (.view nx 0 (n - (j - i)) 2 none) ⟨[(nx, ⟨29, 2, (cs.take (i * 2) ++ cs.drop (j * 2)).map .p⟩)], [], nx + 1⟩ := by
  have hne : ¬ id = nx := by omega
  have hne2 : ¬ nx = id := by omega
  have hcl : (cs.map AV.p).length = n * 2 := by simp; omega
  refine gen_split (pre := []) (post := [_, _]) can_45 (fun c h1 h2 h3 => ?_) ?_
  · refine gen_of_aw (rs := [_]) [] [(5, [(6, .w [])])] [] mixed Try.func45 rfl (by kernel_rfl) (by kernel_rfl) (by simp [Try.ntmps45]) rfl ?_
    generalize hA : cs.map AV.p = A at *
    by_cases c0 : i = j
    · subst c0
      have hd : List.take (i * 2) A ++ List.drop (i * 2) A = A := List.take_append_drop _ _
      simp [Try.results45, hne, hne2]
      exact ⟨hj, [(nx, id)], by simp [hA]⟩
    · have e0 : ((i : Int) == (j : Int)) = false := by rw [beq_eq_false_iff_ne]; omega
      have t1 : ((i : Int) + ((n - j : Nat) : Int)).toNat = i + (n - j) := by omega
      have key : ∀ R, List.take ((i + (n - j)) * 2) (List.take (i * 2) A ++ (List.take ((n - j) * 2) (List.drop (j * 2) A) ++ R)) = List.take (i * 2) A ++ List.drop (j * 2) A := fun R => by
        have := spl_del (R := R) (n := n * 2) (i := i * 2) (j := j * 2) (k := (i + (n - j)) * 2) hcl (by omega) (by omega) (by omega)
        rw [← Nat.sub_mul] at this; exact this
      simp [e0, t1, Try.results45, hne, hne2]
      repeat' refine And.intro ?_ ?_
      all_goals first | omega | skip
      refine .inl ?_
      repeat' refine And.intro ?_ ?_
      all_goals first | omega | (simp; omega) | skip
      refine ⟨[(nx, id)], ?_⟩
      simp [hA, key]
      omega
  · intro hn0
    have hi0 : i = 0 := by omega
    have hj0 : j = 0 := by omega
    have hc0 : cs = [] := List.eq_nil_of_length_eq_zero (by omega)
    subst hi0; subst hj0; subst hc0; subst hn0
    refine gen_void (r := .full []) (tb' := ⟨[], [], nx⟩) (el := 29) (s := 2) ?_ trivial
    refine gen_of_aw (rs := [_]) [] [(5, [(6, .w [])])] [] mixed Try.func45 rfl (by kernel_rfl) (by kernel_rfl) (by simp [Try.ntmps45]) rfl ?_
    simp [Try.results45]
    repeat' refine And.intro ?_ ?_
    all_goals first | omega | exact ⟨[], by simp⟩ | simp
end Go.Av

/-! part P16b -/
namespace Go.Av
open Go.Proofs
theorem ovl_51 : OvlC Try.prog 51 := ⟨Try.f51, 34, 4, 29, Try.func51, by kernel_rfl, by kernel_rfl, by kernel_rfl, by kernel_rfl, by kernel_rfl, by kernel_rfl⟩
theorem can_46 : CanCall Try.prog 46 := ⟨Try.f46, Try.func46, by kernel_rfl, by kernel_rfl⟩

abbrev extP (e : Nat × Nat) : PC := .agg false [.int e.1, .int e.2]

@[simp] theorem pcCells_ext (e : Nat × Nat) : pcCells (extP e) = [.p (.int e.1), .p (.int e.2)] := (rfl)
@[simp] theorem pcs_ext (e : Nat × Nat) : pcs (extP e) = [.int e.1, .int e.2] := (rfl)

/-- two cells put in, into a new row -/
theorem spl_grow2 {A V Z R : List AV} {n i k : Nat} (hA : A.length = n * 2) (hi : i ≤ n) (hV : V.length = 2) (hZ : 2 ≤ Z.length) (hk : k = (n - i) * 2) :
    List.take ((i + 1) * 2) (padTo ((i + 1) * 2) (List.take (i * 2) (padTo (i * 2) (List.take (i * 2) A ++ Z)) ++ (V ++ List.drop (i * 2 + 2) (padTo (i * 2) (List.take (i * 2) A ++ Z))))) ++ (List.take k (List.drop (i * 2) A) ++ R) =
      List.take (i * 2) A ++ (V ++ (List.drop (i * 2) A ++ R)) := by
  have h1 : (List.take (i * 2) A).length = i * 2 := by simp; omega
  have h2 : List.take k (List.drop (i * 2) A) = List.drop (i * 2) A := List.take_of_length_le (by simp; omega)
  rw [h2]
  generalize List.take (i * 2) A = P at *
  rw [padTo_le (k := i * 2) (by simp; omega), List.take_left' h1]
  have h3 : List.drop (i * 2 + 2) (P ++ Z) = List.drop 2 Z := by rw [List.drop_append, h1, List.drop_of_length_le (by omega)]; simp
  rw [h3, padTo_le (by simp; omega), ← List.append_assoc P V, List.take_left' (by simp; omega)]
  simp
/-- .. into its own room -/
theorem spl_room2 {A V : List AV} {n i k : Nat} (hA : A.length = n * 2) (hi : i < n) (hV : V.length = 2) (hk : k = (n - i) * 2) :
    List.take (i * 2) (padTo (i * 2) (List.take ((i + 1) * 2) (padTo ((i + 1) * 2) A) ++ (List.take k (List.drop (i * 2) (padTo ((i + 1) * 2) A)) ++ List.drop ((i + 1) * 2 + k) (padTo ((i + 1) * 2) A)))) ++
      (V ++ List.drop (i * 2 + 2) (padTo (i * 2) (List.take ((i + 1) * 2) (padTo ((i + 1) * 2) A) ++ (List.take k (List.drop (i * 2) (padTo ((i + 1) * 2) A)) ++ List.drop ((i + 1) * 2 + k) (padTo ((i + 1) * 2) A))))) =
      List.take (i * 2) A ++ (V ++ List.drop (i * 2) A) := by
  have e1 : padTo ((i + 1) * 2) A = A := padTo_le (by omega)
  have e2 : List.take k (List.drop (i * 2) A) = List.drop (i * 2) A := List.take_of_length_le (by simp; omega)
  have e3 : List.drop ((i + 1) * 2 + k) A = [] := List.drop_of_length_le (by omega)
  rw [e1, e2, e3, List.append_nil]
  have l1 : (List.take ((i + 1) * 2) A).length = (i + 1) * 2 := by simp; omega
  rw [padTo_le (by simp; omega)]
  congr 1
  · rw [List.take_append_of_le_length (by omega), List.take_take, Nat.min_eq_left (by omega)]
  · congr 1
    rw [List.drop_append, l1, List.drop_of_length_le (by omega), show i * 2 + 2 - (i + 1) * 2 = 0 by omega]; simp

set_option maxHeartbeats 1000000 in
theorem insert46 (nx id : Nat) (hid : id < nx) (cs : List PC) (n i : Nat) (e : Nat × Nat) (hn : cs.length = n * 2) (hi : i ≤ n) (hb : n ≤ 1000000000000) :
    GenC Try.prog 46 [.view id 0 n 2 none, .p (.int i), .p (.sl [extP e])] ⟨[(id, ⟨29, 2, cs.map .p⟩)], [], nx⟩
      (.view nx 0 (n + 1) 2 none) ⟨[(nx, ⟨29, 2, (cs.take (i * 2) ++ [PC.int e.1, PC.int e.2] ++ cs.drop (i * 2)).map .p⟩)], [], nx + 1⟩ := by
  have hne : ¬ id = nx := by omega
  refine gen_split (pre := []) (post := [_, _]) can_46 (fun c h1 h2 h3 => ?_) ?_
  · have hwr : ∀ k : Int, 0 ≤ k → k ≤ 4000000000000 → IntKind.i64.wrap k = k := fun k h1 h2 => wrap64_id (by omega) (by omega)
    refine gen_of_aw (rs := [_]) [] [(11, [(8, .w [])]), (15, [(8, .w [])])] [] mixed Try.func46 rfl (by kernel_rfl) (by kernel_rfl) (by simp [Try.ntmps46]) rfl ?_
    have w1 : IntKind.i64.wrap ((n : Int) + 1) = (n : Int) + 1 := hwr _ (by omega) (by omega)
    have w2 : IntKind.i64.wrap ((n : Int) + 1 - (i : Int)) = (n : Int) + 1 - (i : Int) := hwr _ (by omega) (by omega)
    have w3 : IntKind.i64.wrap ((i : Int) + 1) = (i : Int) + 1 := hwr _ (by omega) (by omega)
    have t1 : ((n : Int) + 1).toNat = n + 1 := by omega
    have t2 : ((n : Int) + 1 - (i : Int)).toNat = n + 1 - i := by omega
    have t3 : ((i : Int) + 1).toNat = i + 1 := by omega
    have hne2 : ¬ nx = id := by omega
    by_cases c1 : i = n
    · subst c1
      have hcs : List.drop (i * 2) (cs.map AV.p) = [] := List.drop_of_length_le (by simp; omega)
      simp [Try.results46, h1, hne, hne2, hcs]
      refine ⟨by omega, ?_⟩
      rcases Nat.lt_or_ge c (i + 1) with h | h
      · exact .inr ⟨by omega, by omega, by omega, [], by simp⟩
      · exact .inl ⟨h, [(nx, id)], by simp⟩
    · have e1 : ((i : Int) == (n : Int)) = false := by rw [beq_eq_false_iff_ne]; omega
      have hcl : (cs.map AV.p).length = n * 2 := by simp; omega
      by_cases c2 : c < n + 1
      · have e2 : (decide ((c : Int) < (n : Int) + 1)) = true := by simp; omega
        generalize hA : cs.map AV.p = A at *
        have m1 : Nat.min 1 (n + 1 - i) = 1 := Nat.min_eq_left (by omega)
        have m2 : (n - i).min (i + (n + 1 - i) - (i + 1)) = n - i := Nat.min_eq_left (by omega)
        have key := fun R => spl_grow2 (V := [.p (.int e.1), .p (.int e.2)]) (R := R) (Z := List.map AV.p (repC (n + 1 - i) [.sc (.int .i64 0), .sc (.int .i64 0)])) hcl hi rfl (by simp [repC_len]; omega) rfl
        simp at key
        simp [e1, w1, e2, w2, w3, t1, t2, t3, Try.results46, hi, h1, hne, hne2, m1, m2, key]
        repeat' refine And.intro ?_ ?_
        all_goals first | omega | skip
        refine ⟨[], ?_⟩
        simp [hA]
        omega
      · have e2 : (decide ((c : Int) < (n : Int) + 1)) = false := by simp; omega
        generalize hA : cs.map AV.p = A at *
        simp [e1, w1, e2, w2, w3, t1, t2, t3, Try.results46, hi, h1, hne, hne2]
        refine ⟨by omega, by omega, by omega, by omega, ocall_of ovl_51 (.inr rfl) (ob := ⟨29, 2, A⟩) (by simp) rfl (by omega) (by simp [isLst]) ?_⟩
        have m1 : Nat.min 1 (n + 1 - i) = 1 := Nat.min_eq_left (by omega)
        have m4 : (n + 1 - i).min (n - i) = n - i := Nat.min_eq_right (by omega)
        have key := spl_room2 (V := [.p (.int e.1), .p (.int e.2)]) hcl (by omega : i < n) rfl rfl
        simp at key
        simp [e1, w1, e2, w2, w3, t1, t2, t3, Try.results46, hi, h1, hne, hne2, m1, m4, key]
        repeat' refine And.intro ?_ ?_
        all_goals first | omega | (rw [padTo_len]; omega) | skip
        exact ⟨[(nx, id)], by simp [hA]⟩
  · intro hn0
    have hi0 : i = 0 := by omega
    have hc0 : cs = [] := List.eq_nil_of_length_eq_zero (by omega)
    subst hi0; subst hc0; subst hn0
    refine gen_of_aw (rs := [_]) [25] [(11, [(8, .w [])]), (15, [(8, .w [])])] [] mixed Try.func46 rfl (by kernel_rfl) (by kernel_rfl) (by simp [Try.ntmps46]) rfl ?_
    simp [Try.results46]
    exact ⟨[], by simp⟩
end Go.Av

/-! part P16c -/
namespace Go.Av
open Go.Proofs

abbrev Ext := Nat × Nat
abbrev setP (L : List Ext) : PC := .sl (L.map extP)

theorem isnan53 (x : Int) : PureC Try.prog 53 [.int x] (.bool false) := by
  refine pure_of_aw (ys := [_]) [] [] [] mixed Try.func53 rfl (by kernel_rfl) (by kernel_rfl) (by simp [Try.ntmps53]) rfl ?_
  simp [Try.results53]

theorem wrapu64_id {n : Int} (h1 : 0 ≤ n) (h2 : n ≤ 18446744073709551615) : IntKind.u64.wrap n = n := by
  have e : IntKind.u64.wrap n = n % 18446744073709551616 := rfl
  rw [e]; omega
def cmpI (x y : Int) : Int := if x < y then -1 else if y < x then 1 else 0
theorem compare50 (x y : Int) : PureC Try.prog 50 [.int x, .int y] (.int (cmpI x y)) := by
  refine pure_of_aw (ys := [_]) [] [] [] mixed Try.func50 rfl (by kernel_rfl) (by kernel_rfl) (by simp [Try.ntmps50]) rfl ?_
  simp
  refine pcall_of (isnan53 x) (by simp) ?_
  simp
  refine pcall_of (isnan53 y) (by simp) ?_
  by_cases h : x < y
  · simp [h, Try.results50, cmpI]
  · by_cases h2 : y < x
    · simp [h, h2, Try.results50, cmpI]
    · simp [h, h2, Try.results50, cmpI]

theorem after49 (e : Ext) (t : Nat) (h1 : e.1 + e.2 ≤ 1000000) (h2 : t ≤ 1000000) : PureC Try.prog 49 [extP e, .int t] (.int (cmpI ((e.1 : Int) + (e.2 : Int)) ((t : Int) + 1))) := by
  have w1 : IntKind.i64.wrap ((e.1 : Int) + (e.2 : Int)) = ((e.1 + e.2 : Nat) : Int) := by rw [wrap64_id (by omega) (by omega)]; simp
  have w2 : IntKind.i64.wrap ((t : Int) + 1) = ((t + 1 : Nat) : Int) := by rw [wrap64_id (by omega) (by omega)]; simp
  refine pure_of_aw (ys := [_]) [] [] [] mixed Try.func49 rfl (by kernel_rfl) (by kernel_rfl) (by simp [Try.ntmps49]) rfl ?_
  simp [w1, w2]
  refine pcall_of (compare50 ((e.1 : Int) + (e.2 : Int)) ((t : Int) + 1)) (by simp) ?_
  simp [Try.results49]

/-- how many end ahead of a sector -/
def aft (L : List Ext) (t : Nat) : Nat := (L.takeWhile fun e => decide (e.1 + e.2 ≤ t)).length
def Up (L : List Ext) : Prop := L.Pairwise fun a b => a.1 + a.2 ≤ b.1 + b.2
theorem up_at {L : List Ext} (h : Up L) {p q : Nat} (hpq : p ≤ q) (hq : q < L.length) : L[p].1 + L[p].2 ≤ L[q].1 + L[q].2 := by
  by_cases e : p = q
  · subst e; exact Nat.le_refl _
  · exact List.pairwise_iff_getElem.1 h p q (by omega) hq (by omega)
theorem aft_le (L : List Ext) (t : Nat) : aft L t ≤ L.length := by unfold aft; exact (List.takeWhile_prefix _).length_le
theorem aft_eq {L : List Ext} {t i : Nat} (hi : i ≤ L.length) (h1 : ∀ p (hp : p < L.length), p < i → L[p].1 + L[p].2 ≤ t) (h2 : ∀ (hp : i < L.length), t < L[i].1 + L[i].2) : aft L t = i := by
  induction L generalizing i with
  | nil => simp at hi; subst hi; rfl
  | cons a L ih =>
    cases i with
    | zero =>
      have := h2 (by simp)
      simp only [List.getElem_cons_zero] at this
      have h : decide (a.1 + a.2 ≤ t) = false := by simp; omega
      simp [aft, h]
    | succ i =>
      have ha := h1 0 (by simp) (by omega)
      simp at ha
      have := ih (i := i) (by simpa using hi) (fun p hp hpi => by have := h1 (p + 1) (by simp; omega) (by omega); simpa using this) (fun hp => by have := h2 (by simp; omega); simpa using this)
      simp [aft, ha] at this ⊢
      exact this

set_option maxHeartbeats 1000000 in
theorem search48 (L : List Ext) (t : Nat) (hL : Up L) (hl : L.length ≤ 1000000) (hb : ∀ e ∈ L, e.1 + e.2 ≤ 1000000) (ht : t ≤ 1000000) :
    PureC Try.prog 48 [setP L, .int t, .fn (.func 49) []] (.tp [.int (aft L t), .bool (decide (∃ h : aft L t < L.length, L[aft L t].1 + L[aft L t].2 = t + 1))]) := by
  refine pure_of_aw (ys := [_, _]) [] [] [] mixed Try.func48 rfl (by kernel_rfl) (by kernel_rfl) (by simp [Try.ntmps48]) rfl ?_
  simp
  refine aw_loop0 (fun ij : Nat × Nat => ij.1 ≤ ij.2 ∧ ij.2 ≤ L.length ∧ (∀ p (hp : p < L.length), p < ij.1 → L[p].1 + L[p].2 ≤ t) ∧ (∀ (hp : ij.2 < L.length), t < L[ij.2].1 + L[ij.2].2)) (fun ij => [(0, .p (setP L)), (1, .p (.int t)), (2, .p (.fn (.func 49) [])), (8, .p (.int L.length)), (9, .p (.int ij.1)), (10, .p (.int ij.2))]) (fun ij => ij.2 - ij.1) (0, L.length) (by simp) (leN_id (by simp)) ?_
  rintro ⟨i, j⟩ ⟨h1, h2, h3, h4⟩
  simp only at h1 h2 h3 h4
  by_cases c : i < j
  · obtain ⟨h, hh⟩ : ∃ h, h = (i + j) / 2 := ⟨_, rfl⟩
    have w0 : IntKind.i64.wrap ((i : Int) + (j : Int)) = ((i + j : Nat) : Int) := by rw [wrap64_id (by omega) (by omega)]; simp
    have hm : h < L.length := by omega
    have wm : IntKind.i64.wrap ((IntKind.u64.wrap ((i : Int) + (j : Int))).fdiv (2 ^ min 1 IntKind.u64.bits)) = (h : Int) := by
      have e1 : IntKind.u64.wrap ((i : Int) + (j : Int)) = ((i + j : Nat) : Int) := by exact wrapu64_id (by omega) (by omega)
      have e2 : (2 : Int) ^ min 1 IntKind.u64.bits = 2 := rfl
      rw [e1, e2, Int.fdiv_eq_ediv_of_nonneg _ (by omega), hh, wrap64_id (by omega) (by omega)]; simp
    simp [c, w0, wm, hm]
    refine pcall_of (after49 L[h] t (hb _ (by simp)) ht) (by simp) ?_
    by_cases c2 : L[h].1 + L[h].2 ≤ t
    · have e2 : decide (cmpI ((L[h].1 : Int) + (L[h].2 : Int)) ((t : Int) + 1) < 0) = true := by
        have : (L[h].1 : Int) + (L[h].2 : Int) < (t : Int) + 1 := by omega
        simp [cmpI, this]
      simp [e2]
      refine ⟨h + 1, j, ⟨by omega, h2, ?_, h4⟩, by omega, leN_id ?_⟩
      · intro p hp hph
        have := up_at hL (p := p) (q := h) (by omega) hm
        omega
      · simp [wrap64_id (n := (h : Int) + 1) (by omega) (by omega)]
    · have e2 : decide (cmpI ((L[h].1 : Int) + (L[h].2 : Int)) ((t : Int) + 1) < 0) = false := by
        have : ¬ (L[h].1 : Int) + (L[h].2 : Int) < (t : Int) + 1 := by omega
        simp only [cmpI, this, if_false]; split <;> rfl
      simp [e2]
      exact ⟨i, h, ⟨by omega, by omega, h3, fun _ => by omega⟩, by omega, leN_id (by simp)⟩
  · have e : i = j := by omega
    subst e
    have ea : aft L t = i := aft_eq h2 h3 h4
    by_cases c2 : i < L.length
    · simp [c2]
      refine pcall_of (after49 L[i] t (hb _ (by simp)) ht) (by simp) ?_
      simp [Try.results48, ea, c2]
      rw [Bool.eq_iff_iff]
      simp only [decide_eq_true_eq, beq_iff_eq, cmpI]
      split
      · constructor <;> intro <;> omega
      · split
        · constructor <;> intro <;> omega
        · constructor <;> intro <;> omega
    · simp [c2, Try.results48, ea]
end Go.Av

/-! part P16d -/
namespace Go.Av
open Go.Proofs

theorem after44 (L : List Ext) (t : Nat) (hL : Up L) (hl : L.length ≤ 1000000) (hb : ∀ e ∈ L, e.1 + e.2 ≤ 1000000) (ht : t ≤ 1000000) : PureC Try.prog 44 [setP L, .int t] (.int (aft L t)) := by
  refine pure_of_aw (ys := [_]) [] [] [] mixed Try.func44 rfl (by kernel_rfl) (by kernel_rfl) (by simp [Try.ntmps44]) rfl ?_
  simp
  refine pcall_of (search48 L t hL hl hb ht) (by simp) ?_
  simp [Try.results44]

/-- how many sectors -/
def szL (L : List Ext) : Nat := (L.map (·.2)).sum
theorem szL_take {L : List Ext} {k : Nat} (h : k < L.length) : szL (L.take (k + 1)) = szL (L.take k) + L[k].2 := by
  unfold szL
  rw [List.take_succ_eq_append_getElem h, List.map_append, List.sum_append]
  simp
theorem szL_le {L : List Ext} (hb : ∀ e ∈ L, e.2 ≤ 1000000) : szL L ≤ L.length * 1000000 := by
  unfold szL
  induction L with
  | nil => simp
  | cons a L ih =>
    have := ih fun e he => hb e (by simp [he])
    have := hb a (by simp)
    simp; omega
theorem size32 (L : List Ext) (hl : L.length ≤ 1000000) (hb : ∀ e ∈ L, e.2 ≤ 1000000) : PureC Try.prog 32 [setP L] (.int (szL L)) := by
  refine pure_of_aw (ys := [_]) [] [] [] mixed Try.func32 rfl (by kernel_rfl) (by kernel_rfl) (by simp [Try.ntmps32]) rfl ?_
  simp
  refine aw_loop0 (fun k : Nat => k ≤ L.length) (fun k => [(6, .p (setP L)), (7, .p (.int L.length)), (8, .p (.int k)), (3, .p (.int (szL (L.take k))))]) (fun k => L.length - k) 0 (by simp) (leN_id (by simp [szL])) ?_
  intro k hk
  by_cases c : k < L.length
  · have b1 := szL_le (L := L.take k) fun e he => hb e (List.mem_of_mem_take he)
    simp at b1
    have b2 := hb L[k] (by simp)
    have b3 : min k L.length * 1000000 ≤ 1000000 * 1000000 := Nat.mul_le_mul_right _ (by omega)
    have w : IntKind.i64.wrap ((szL (L.take k) : Int) + (L[k].2 : Int)) = (szL (L.take (k + 1)) : Int) := by
      rw [szL_take c, wrap64_id (by omega) (by omega)]; simp
    simp [c]
    refine ⟨k + 1, by omega, by omega, leN_id ?_⟩
    simp [w, wrap64_id (n := (k : Int) + 1) (by omega) (by omega)]
  · have e : k = L.length := by omega
    subst e
    simp [Try.results32]

/-- does an extent meet them? -/
def mtB (L : List Ext) (e : Ext) : Bool := match L[aft L e.1]? with
  | some x => decide (x.1 < e.1 + e.2)
  | none => false
def hasB (L : List Ext) (e : Ext) : Bool := match L[aft L e.1]? with
  | some x => decide (x.1 ≤ e.1) && decide (e.1 + e.2 ≤ x.1 + x.2)
  | none => false

theorem meets38 (L : List Ext) (e : Ext) (hL : Up L) (hl : L.length ≤ 1000000) (hb : ∀ e ∈ L, e.1 + e.2 ≤ 1000000) (he : e.1 + e.2 ≤ 1000000) : PureC Try.prog 38 [setP L, extP e] (.bool (mtB L e)) := by
  have w1 : IntKind.i64.wrap ((e.1 : Int) + (e.2 : Int)) = (e.1 : Int) + (e.2 : Int) := wrap64_id (by omega) (by omega)
  refine pure_of_aw (ys := [_]) [] [] [] mixed Try.func38 rfl (by kernel_rfl) (by kernel_rfl) (by simp [Try.ntmps38]) rfl ?_
  simp
  refine pcall_of (after44 L e.1 hL hl hb (by omega)) (by simp) ?_
  unfold mtB
  generalize aft L e.1 = i
  by_cases c : i < L.length
  · simp [c, w1, Try.results38]
    omega
  · simp [c, Try.results38]

theorem has40 (L : List Ext) (e : Ext) (hL : Up L) (hl : L.length ≤ 1000000) (hb : ∀ e ∈ L, e.1 + e.2 ≤ 1000000) (he : e.1 + e.2 ≤ 1000000) : PureC Try.prog 40 [setP L, extP e] (.bool (hasB L e)) := by
  have w1 : IntKind.i64.wrap ((e.1 : Int) + (e.2 : Int)) = (e.1 : Int) + (e.2 : Int) := wrap64_id (by omega) (by omega)
  refine pure_of_aw (ys := [_]) [] [] [] mixed Try.func40 rfl (by kernel_rfl) (by kernel_rfl) (by simp [Try.ntmps40]) rfl ?_
  simp
  refine pcall_of (after44 L e.1 hL hl hb (by omega)) (by simp) ?_
  unfold hasB
  generalize aft L e.1 = i
  by_cases c : i < L.length
  · have b := hb L[i] (by simp)
    have w2 : IntKind.i64.wrap ((L[i].1 : Int) + (L[i].2 : Int)) = (L[i].1 : Int) + (L[i].2 : Int) := wrap64_id (by omega) (by omega)
    by_cases c2 : L[i].1 ≤ e.1
    · simp [c, c2, w1, w2, Try.results40]
      omega
    · simp [c, c2, w1, w2, Try.results40]
  · simp [c, Try.results40]
end Go.Av

/-! part P16e -/
namespace Go.Av
open Go.Proofs

/-- an extents' row's cells -/
def cellsL (L : List Ext) : List PC := L.flatMap fun e => [PC.int e.1, PC.int e.2]
abbrev rowO (L : List Ext) : Ob := ⟨29, 2, (cellsL L).map .p⟩
@[simp] theorem cellsL_nil : cellsL [] = [] := rfl
theorem cellsL_cons (e : Ext) (L : List Ext) : cellsL (e :: L) = PC.int e.1 :: PC.int e.2 :: cellsL L := rfl
theorem cellsL_append (L M : List Ext) : cellsL (L ++ M) = cellsL L ++ cellsL M := by simp [cellsL]
@[simp] theorem cellsL_len (L : List Ext) : (cellsL L).length = L.length * 2 := by
  induction L with
  | nil => rfl
  | cons a L ih => simp [ih, cellsL_cons]; omega
theorem cellsL_take (L : List Ext) : ∀ i, (cellsL L).take (i * 2) = cellsL (L.take i) := by
  induction L with
  | nil => intro i; simp
  | cons a L ih =>
    intro i
    cases i with
    | zero => simp
    | succ i => rw [show (i + 1) * 2 = i * 2 + 1 + 1 by omega]; simp [ih, cellsL_cons]
theorem cellsL_drop (L : List Ext) : ∀ i, (cellsL L).drop (i * 2) = cellsL (L.drop i) := by
  induction L with
  | nil => intro i; simp
  | cons a L ih =>
    intro i
    cases i with
    | zero => simp
    | succ i => rw [show (i + 1) * 2 = i * 2 + 1 + 1 by omega]; simp [ih, cellsL_cons]
theorem cellsL_at {L : List Ext} {i : Nat} (h : i < L.length) : (cellsL L)[i * 2]? = some (.int L[i].1) ∧ (cellsL L)[i * 2 + 1]? = some (.int L[i].2) := by
  induction L generalizing i with
  | nil => simp at h
  | cons a L ih =>
    cases i with
    | zero => simp [cellsL_cons]
    | succ i => rw [show (i + 1) * 2 = i * 2 + 1 + 1 by omega]; simpa [cellsL_cons] using ih (by simpa using h)
theorem cellsL_pcs (L : List Ext) : (L.map extP).flatMap pcs = cellsL L := by
  induction L with
  | nil => rfl
  | cons a L ih => simp [ih, cellsL_cons]

theorem bor_set {bx : List (Nat × Ob)} {k id n : Nat} {c : Option Nat} {L : List Ext} (h : lk id bx = some (rowO L)) (hn : n = L.length) : borF bx (k + 1) (.view id 0 n 2 c) (setP L) := by
  subst hn
  refine ⟨_, h, by omega, by simp, by simp, ?_, ?_, ?_⟩
  · rw [flat_pcs, cellsL_pcs]; simp
    exact List.take_of_length_le (by simp)
  · intro y hy; obtain ⟨e, _, rfl⟩ := List.mem_map.1 hy; rfl
  · intro y hy; obtain ⟨e, _, rfl⟩ := List.mem_map.1 hy; rfl

theorem cellsL_set {L : List Ext} {k n : Nat} (h : k < L.length) : (cellsL L).take (k * 2 + 1) ++ PC.int n :: (cellsL L).drop (k * 2 + 1 + 1) = cellsL (L.take k ++ (L[k].1, n) :: L.drop (k + 1)) := by
  induction L generalizing k with
  | nil => simp at h
  | cons a L ih =>
    cases k with
    | zero => simp [cellsL_cons]
    | succ k =>
      have := ih (k := k) (by simpa using h)
      rw [show (k + 1) * 2 + 1 = k * 2 + 1 + 1 + 1 by omega]
      simp [cellsL_cons, this]

theorem deleteL (nx id : Nat) (hid : id < nx) (L : List Ext) (i : Nat) (hi : i < L.length) (hb : L.length ≤ 1000000) :
    GenC Try.prog 45 [.view id 0 L.length 2 none, .p (.int i), .p (.int ((i : Int) + 1))] ⟨[(id, rowO L)], [], nx⟩ (.view nx 0 (L.length - 1) 2 none) ⟨[(nx, rowO (L.take i ++ L.drop (i + 1)))], [], nx + 1⟩ := by
  have := delete45 nx id hid (cellsL L) L.length i (i + 1) (by simp) (by omega) (by omega) (by omega)
  rw [cellsL_take, cellsL_drop, ← cellsL_append, show L.length - (i + 1 - i) = L.length - 1 by omega] at this
  exact this
theorem insertL (nx id : Nat) (hid : id < nx) (L : List Ext) (i : Nat) (e : Ext) (hi : i ≤ L.length) (hb : L.length ≤ 1000000) :
    GenC Try.prog 46 [.view id 0 L.length 2 none, .p (.int i), .p (.sl [extP e])] ⟨[(id, rowO L)], [], nx⟩ (.view nx 0 (L.length + 1) 2 none) ⟨[(nx, rowO (L.take i ++ e :: L.drop i))], [], nx + 1⟩ := by
  have := insert46 nx id hid (cellsL L) L.length i e (by simp) hi (by omega)
  rw [cellsL_take, cellsL_drop, List.append_assoc] at this
  rw [show rowO (L.take i ++ e :: L.drop i) = ⟨29, 2, (cellsL (L.take i) ++ ([PC.int e.1, PC.int e.2] ++ cellsL (L.drop i))).map .p⟩ by simp [rowO, cellsL_append, cellsL_cons]]
  exact this

/-- an extent put in, joined with its neighbours -/
def joinR (L : List Ext) (e : Ext) : Bool := match L[aft L e.1]? with
  | some x => decide (e.1 + e.2 = x.1)
  | none => false
def putM (L : List Ext) (e : Ext) : List Ext := if joinR L e = true then L.take (aft L e.1) ++ L.drop (aft L e.1 + 1) else L
def putE (L : List Ext) (e : Ext) : Ext := if joinR L e = true then (e.1, e.2 + (L.getD (aft L e.1) (0, 0)).2) else e
def joinM (M : List Ext) (i : Nat) (e : Ext) : List Ext :=
  match i with
  | 0 => e :: M
  | k + 1 => if (M.getD k (0, 0)).1 + (M.getD k (0, 0)).2 = e.1 then M.take k ++ ((M.getD k (0, 0)).1, (M.getD k (0, 0)).2 + e.2) :: M.drop (k + 1) else M.take (k + 1) ++ e :: M.drop (k + 1)
def putL (L : List Ext) (e : Ext) : List Ext := joinM (putM L e) (aft L e.1) (putE L e)

set_option maxHeartbeats 4000000 in
set_option maxRecDepth 100000 in
theorem put33 (nx id rid : Nat) (hid : id < nx) (hrid : rid < nx) (hne : id ≠ rid) (el sz off : Nat) (xs : List AV) (L : List Ext) (e : Ext) (hx : xs[off]? = some (.view rid 0 L.length 2 none)) (hxl : AV.lim.lims nx xs = true)
    (hL : Up L) (hl : L.length ≤ 1000) (hb : ∀ e ∈ L, e.1 + e.2 ≤ 100000) (he : e.1 + e.2 ≤ 100000) :
    GenC Try.prog 33 [.obj id off, .p (extP e)] ⟨[(id, ⟨el, sz, xs⟩), (rid, rowO L)], [], nx⟩ (.agg true [])
      ⟨[(id, ⟨el, sz, xs.take off ++ .view nx 0 (putL L e).length 2 none :: xs.drop (off + 1)⟩), (nx, rowO (putL L e))], [], nx + 1⟩ := by
  have w1 : IntKind.i64.wrap ((e.1 : Int) + (e.2 : Int)) = (e.1 : Int) + (e.2 : Int) := wrap64_id (by omega) (by omega)
  have n1 : ¬ id = nx := by omega
  have n2 : ¬ rid = nx := by omega
  have n3 : ¬ nx = id := by omega
  have n4 : ¬ nx = rid := by omega
  have n5 : ¬ rid = id := by omega
  have n6 : ¬ id = nx + 1 := by omega
  have n7 : ¬ nx + 1 = id := by omega
  have n8 : ¬ rid = nx + 1 := by omega
  have n9 : ¬ nx + 1 = rid := by omega
  have n10 : ¬ id = nx + 1 + 1 := by omega
  have n11 : ¬ nx + 1 + 1 = id := by omega
  have hid1 : id < nx + 1 := by omega
  have hoff : off < xs.length := by
    rcases Nat.lt_or_ge off xs.length with h | h
    · exact h
    · rw [List.getElem?_eq_none h] at hx; cases hx
  have ha := after44 L e.1 hL (by omega) (fun e he => by have := hb e he; omega) (by omega)
  have hale := aft_le L e.1
  have hr : ∀ k, AV.ren.rens (rnF [(nx, k)]) xs = xs := fun k => rens_old (nx := nx) (by simp) xs hxl
  have hlm : ∀ k, nx ≤ k → AV.lim.lims k xs = true := fun k hk => lims_mono hk xs hxl
  have hbs : ∀ bx, lk rid bx = some (rowO L) → borF bx 4 (.view rid 0 L.length 2 none) (setP L) := fun bx h => bor_set h rfl
  have hat : ∀ (M : List Ext) (k : Nat) (h : k < M.length), (cellsL M)[k * 2]? = some (.int M[k].1) ∧ (cellsL M)[k * 2 + 1]? = some (.int M[k].2) ∧ (∀ h', (cellsL M)[k * 2]'h' = .int M[k].1) ∧ (∀ h', (cellsL M)[k * 2 + 1]'h' = .int M[k].2) := by
    intro M k h
    have h1 := cellsL_at h
    exact ⟨h1.1, h1.2, fun h' => by have := h1.1; rw [List.getElem?_eq_getElem h'] at this; injection this, fun h' => by have := h1.2; rw [List.getElem?_eq_getElem h'] at this; injection this⟩
  have hN : putL L e = joinM (putM L e) (aft L e.1) (putE L e) := rfl
  generalize putL L e = N at *
  generalize hi : aft L e.1 = i at *
  by_cases c : i < L.length
  · have g := hat L i c
    by_cases jr : e.1 + e.2 = L[i].1
    · have hj : joinR L e = true := by unfold joinR; rw [hi]; simp [c, jr]
      have hMd : putM L e = L.take i ++ L.drop (i + 1) := by unfold putM; rw [if_pos hj, hi]
      have hE : putE L e = (e.1, e.2 + L[i].2) := by unfold putE; rw [if_pos hj, hi]; simp [c]
      rw [hE] at hN
      generalize putM L e = M at *
      have hMd' := hMd.symm
      have hMl : M.length = L.length - 1 := by rw [hMd]; simp; omega
      have e1 : ((e.1 : Int) + (e.2 : Int) == (L[i].1 : Int)) = true := by simp; omega
      have w3 : IntKind.i64.wrap ((e.2 : Int) + (L[i].2 : Int)) = (e.2 : Int) + (L[i].2 : Int) := by have := hb L[i] (by simp); exact wrap64_id (by omega) (by omega)
      have w0 : IntKind.i64.wrap ((i : Int) + 1) = (i : Int) + 1 := wrap64_id (by omega) (by omega)
      by_cases z : i = 0
      · have z0 : ¬ 0 < i := by omega
        have hNe : M.take i ++ (e.1, e.2 + L[i].2) :: M.drop i = N := by rw [hN]; generalize (e.1, e.2 + L[i].2) = E; rw [z]; simp [joinM]
        have hNl : N.length = M.length + 1 := by rw [← hNe]; simp; omega
        refine gen_of_aw (rs := []) [3] [(3, [(6, .r 1), (8, .r 1), (14, .r 2)]), (4, [(1, .r 1), (6, .r 2), (9, .s 1 [2])]), (6, [(8, .r 3), (14, .r 3), (17, .r 1)]), (7, [(5, .r 3), (7, .r 1), (11, .s 3 [1])])] [(1, nx), (2, rid), (3, nx + 1)] mixed Try.func33 rfl (by kernel_rfl) (by kernel_rfl) (by simp [Try.ntmps33]) rfl ?_
        simp [hx, hne, n1, n2, n3, n4, n5, n6, n7, n8, n9, n10, n11]
        refine bcall_of0 ha ⟨hbs _ (by simp [n1, n2, n3, n4, n5, n6, n7, n8, n9, n10, n11]), by simp [borF], trivial⟩ rfl ?_
        simp [hx, hne, n1, n2, n3, n4, n5, n6, n7, n8, n9, n10, n11, w1, c, e1, g.1, g.2.1, g.2.2.1, g.2.2.2, w0, w3]
        refine gcall_of0 (deleteL (nx + 1) rid (by omega) L i c (by omega)) (by simp) (by simp [sub1, n1, n2, n3, n4, n5, n6, n7, n8, n9, n10, n11]) trivial rfl ?_
        rw [hMd', ← hMl]
        simp [hx, hne, n1, n2, n3, n4, n5, n6, n7, n8, n9, n10, n11, w1, z0]
        refine gcall_of0 (insertL (nx + 1 + 1) (nx + 1) (by omega) M i (e.1, e.2 + L[i].2) (by omega) (by omega)) (by simp) (by simp [sub1, n1, n2, n3, n4, n5, n6, n7, n8, n9, n10, n11]) trivial rfl ?_
        rw [hNe]
        simp [hx, hne, n1, n2, n3, n4, n5, n6, n7, n8, n9, n10, n11, hoff, Try.results33]
        refine ⟨by omega, [(nx, nx + 1 + 1)], ?_⟩
        simp [hx, hne, n1, n2, n3, n4, n5, n6, n7, n8, n9, n10, n11, hr, hlm, hid1, hNl]
      · obtain ⟨k, hk⟩ : ∃ k, i = k + 1 := ⟨i - 1, by omega⟩
        have z1 : 0 < i := by omega
        have hMk : k < M.length := by omega
        have gk := hat M k hMk
        have hsub : ∀ x ∈ M, x ∈ L := by rw [hMd]; intro x hx; rcases List.mem_append.1 hx with h | h; exact List.mem_of_mem_take h; exact List.mem_of_mem_drop h
        have bk := hb _ (hsub _ (List.getElem_mem hMk))
        have bi := hb L[i] (by simp)
        have w4 : IntKind.i64.wrap ((i : Int) - 1) = (k : Int) := by rw [wrap64_id (by omega) (by omega)]; omega
        have w5 : IntKind.i64.wrap ((M[k].1 : Int) + (M[k].2 : Int)) = (M[k].1 : Int) + (M[k].2 : Int) := wrap64_id (by omega) (by omega)
        by_cases jl : M[k].1 + M[k].2 = e.1
        · have e2 : ((M[k].1 : Int) + (M[k].2 : Int) == (e.1 : Int)) = true := by simp; omega
          have w6 : IntKind.i64.wrap ((M[k].2 : Int) + ((e.2 : Int) + (L[i].2 : Int))) = ((M[k].2 + (e.2 + L[i].2) : Nat) : Int) := by rw [wrap64_id (by omega) (by omega)]; simp
          have hNe : M.take k ++ (M[k].1, M[k].2 + (e.2 + L[i].2)) :: M.drop (k + 1) = N := by rw [hN]; simp only [hk, joinM]; simp [hMk, jl]
          have hNl : N.length = M.length := by rw [← hNe]; simp; omega
          have hset := congrArg (List.map AV.p) (cellsL_set (n := M[k].2 + (e.2 + L[i].2)) hMk)
          rw [hNe] at hset
          simp at hset
          refine gen_of_aw (rs := []) [3] [(3, [(6, .r 1), (8, .r 1), (14, .r 2)]), (4, [(1, .r 1), (6, .r 2), (9, .s 1 [2])]), (6, [(8, .r 3), (14, .r 3), (17, .r 1)]), (7, [(5, .r 3), (7, .r 1), (11, .s 3 [1])])] [(1, nx), (2, rid), (3, nx + 1)] mixed Try.func33 rfl (by kernel_rfl) (by kernel_rfl) (by simp [Try.ntmps33]) rfl ?_
          simp [hx, hne, n1, n2, n3, n4, n5, n6, n7, n8, n9, n10, n11]
          refine bcall_of0 ha ⟨hbs _ (by simp [n1, n2, n3, n4, n5, n6, n7, n8, n9, n10, n11]), by simp [borF], trivial⟩ rfl ?_
          simp [hx, hne, n1, n2, n3, n4, n5, n6, n7, n8, n9, n10, n11, w1, c, e1, g.1, g.2.1, g.2.2.1, g.2.2.2, w0, w3]
          refine gcall_of0 (deleteL (nx + 1) rid (by omega) L i c (by omega)) (by simp) (by simp [sub1, n1, n2, n3, n4, n5, n6, n7, n8, n9, n10, n11]) trivial rfl ?_
          rw [hMd', ← hMl]
          simp [hx, hne, n1, n2, n3, n4, n5, n6, n7, n8, n9, n10, n11, w1, gk.1, gk.2.1, gk.2.2.1, gk.2.2.2, w4, w5, w6, e2, z1, hMk]
          refine ⟨by omega, by omega, [(nx, nx + 1)], ?_⟩
          simp [hx, hne, n1, n2, n3, n4, n5, n6, n7, n8, n9, n10, n11, hr, hlm, hid1, hNl, hset]
        · have e2 : ((M[k].1 : Int) + (M[k].2 : Int) == (e.1 : Int)) = false := by simp; omega
          have hNe : M.take i ++ (e.1, e.2 + L[i].2) :: M.drop i = N := by rw [hN]; simp only [hk, joinM]; simp [hMk, jl]
          have hNl : N.length = M.length + 1 := by rw [← hNe]; simp; omega
          refine gen_of_aw (rs := []) [3] [(3, [(6, .r 1), (8, .r 1), (14, .r 2)]), (4, [(1, .r 1), (6, .r 2), (9, .s 1 [2])]), (6, [(8, .r 3), (14, .r 3), (17, .r 1)]), (7, [(5, .r 3), (7, .r 1), (11, .s 3 [1])])] [(1, nx), (2, rid), (3, nx + 1)] mixed Try.func33 rfl (by kernel_rfl) (by kernel_rfl) (by simp [Try.ntmps33]) rfl ?_
          simp [hx, hne, n1, n2, n3, n4, n5, n6, n7, n8, n9, n10, n11]
          refine bcall_of0 ha ⟨hbs _ (by simp [n1, n2, n3, n4, n5, n6, n7, n8, n9, n10, n11]), by simp [borF], trivial⟩ rfl ?_
          simp [hx, hne, n1, n2, n3, n4, n5, n6, n7, n8, n9, n10, n11, w1, c, e1, g.1, g.2.1, g.2.2.1, g.2.2.2, w0, w3]
          refine gcall_of0 (deleteL (nx + 1) rid (by omega) L i c (by omega)) (by simp) (by simp [sub1, n1, n2, n3, n4, n5, n6, n7, n8, n9, n10, n11]) trivial rfl ?_
          rw [hMd', ← hMl]
          simp [hx, hne, n1, n2, n3, n4, n5, n6, n7, n8, n9, n10, n11, w1, gk.1, gk.2.1, gk.2.2.1, gk.2.2.2, w4, w5, e2, z1, hMk]
          refine gcall_of0 (insertL (nx + 1 + 1) (nx + 1) (by omega) M i (e.1, e.2 + L[i].2) (by omega) (by omega)) (by simp) (by simp [sub1, n1, n2, n3, n4, n5, n6, n7, n8, n9, n10, n11]) trivial rfl ?_
          rw [hNe]
          simp [hx, hne, n1, n2, n3, n4, n5, n6, n7, n8, n9, n10, n11, hoff, Try.results33]
          refine ⟨by omega, [(nx, nx + 1 + 1)], ?_⟩
          simp [hx, hne, n1, n2, n3, n4, n5, n6, n7, n8, n9, n10, n11, hr, hlm, hid1, hNl]
    · have hj : joinR L e = false := by unfold joinR; rw [hi]; simp [c, jr]
      have hE : putE L e = e ∧ putM L e = L := by unfold putE putM; rw [hj]; simp
      rw [hE.1, hE.2] at hN
      have e1 : ((e.1 : Int) + (e.2 : Int) == (L[i].1 : Int)) = false := by simp; omega
      by_cases z : i = 0
      · have z0 : ¬ 0 < i := by omega
        have hNe : L.take i ++ e :: L.drop i = N := by rw [hN]; generalize e = E; rw [z]; simp [joinM]
        have hNl : N.length = L.length + 1 := by rw [← hNe]; simp; omega
        refine gen_of_aw (rs := []) [3] [(3, [(6, .r 1), (8, .r 1), (14, .r 2)]), (4, [(1, .r 1), (6, .r 2), (9, .s 1 [2])]), (6, [(8, .r 3), (14, .r 3), (17, .r 1)]), (7, [(5, .r 3), (7, .r 1), (11, .s 3 [1])])] [(1, nx), (2, rid), (3, rid)] mixed Try.func33 rfl (by kernel_rfl) (by kernel_rfl) (by simp [Try.ntmps33]) rfl ?_
        simp [hx, hne, n1, n2, n3, n4, n5, n6, n7, n8, n9, n10, n11]
        refine bcall_of0 ha ⟨hbs _ (by simp [n1, n2, n3, n4, n5, n6, n7, n8, n9, n10, n11]), by simp [borF], trivial⟩ rfl ?_
        simp [hx, hne, n1, n2, n3, n4, n5, n6, n7, n8, n9, n10, n11, w1, c, e1, g.1, g.2.1, g.2.2.1, g.2.2.2, z0]
        refine gcall_of0 (insertL (nx + 1) rid (by omega) L i e (by omega) (by omega)) (by simp) (by simp [sub1, n1, n2, n3, n4, n5, n6, n7, n8, n9, n10, n11]) trivial rfl ?_
        rw [hNe]
        simp [hx, hne, n1, n2, n3, n4, n5, n6, n7, n8, n9, n10, n11, hoff, Try.results33]
        refine ⟨by omega, [(nx, nx + 1)], ?_⟩
        simp [hx, hne, n1, n2, n3, n4, n5, n6, n7, n8, n9, n10, n11, hr, hlm, hid1, hNl]
      · obtain ⟨k, hk⟩ : ∃ k, i = k + 1 := ⟨i - 1, by omega⟩
        have z1 : 0 < i := by omega
        have hMk : k < L.length := by omega
        have gk := hat L k hMk
        have hsub : ∀ x ∈ L, x ∈ L := by exact fun x h => h
        have bk := hb _ (hsub _ (List.getElem_mem hMk))
        have w4 : IntKind.i64.wrap ((i : Int) - 1) = (k : Int) := by rw [wrap64_id (by omega) (by omega)]; omega
        have w5 : IntKind.i64.wrap ((L[k].1 : Int) + (L[k].2 : Int)) = (L[k].1 : Int) + (L[k].2 : Int) := wrap64_id (by omega) (by omega)
        by_cases jl : L[k].1 + L[k].2 = e.1
        · have e2 : ((L[k].1 : Int) + (L[k].2 : Int) == (e.1 : Int)) = true := by simp; omega
          have w6 : IntKind.i64.wrap ((L[k].2 : Int) + (e.2 : Int)) = ((L[k].2 + e.2 : Nat) : Int) := by rw [wrap64_id (by omega) (by omega)]; simp
          have hNe : L.take k ++ (L[k].1, L[k].2 + e.2) :: L.drop (k + 1) = N := by rw [hN]; simp only [hk, joinM]; simp [hMk, jl]
          have hNl : N.length = L.length := by rw [← hNe]; simp; omega
          have hset := congrArg (List.map AV.p) (cellsL_set (n := L[k].2 + e.2) hMk)
          rw [hNe] at hset
          simp at hset
          refine gen_of_aw (rs := []) [3] [(3, [(6, .r 1), (8, .r 1), (14, .r 2)]), (4, [(1, .r 1), (6, .r 2), (9, .s 1 [2])]), (6, [(8, .r 3), (14, .r 3), (17, .r 1)]), (7, [(5, .r 3), (7, .r 1), (11, .s 3 [1])])] [(1, nx), (2, rid), (3, rid)] mixed Try.func33 rfl (by kernel_rfl) (by kernel_rfl) (by simp [Try.ntmps33]) rfl ?_
          simp [hx, hne, n1, n2, n3, n4, n5, n6, n7, n8, n9, n10, n11]
          refine bcall_of0 ha ⟨hbs _ (by simp [n1, n2, n3, n4, n5, n6, n7, n8, n9, n10, n11]), by simp [borF], trivial⟩ rfl ?_
          simp [hx, hne, n1, n2, n3, n4, n5, n6, n7, n8, n9, n10, n11, w1, c, e1, g.1, g.2.1, g.2.2.1, g.2.2.2, gk.1, gk.2.1, gk.2.2.1, gk.2.2.2, w4, w5, w6, e2, z1, hMk]
          refine ⟨by omega, by omega, [(nx, rid)], ?_⟩
          simp [hx, hne, n1, n2, n3, n4, n5, n6, n7, n8, n9, n10, n11, hr, hlm, hid1, hNl, hset]
        · have e2 : ((L[k].1 : Int) + (L[k].2 : Int) == (e.1 : Int)) = false := by simp; omega
          have hNe : L.take i ++ e :: L.drop i = N := by rw [hN]; simp only [hk, joinM]; simp [hMk, jl]
          have hNl : N.length = L.length + 1 := by rw [← hNe]; simp; omega
          refine gen_of_aw (rs := []) [3] [(3, [(6, .r 1), (8, .r 1), (14, .r 2)]), (4, [(1, .r 1), (6, .r 2), (9, .s 1 [2])]), (6, [(8, .r 3), (14, .r 3), (17, .r 1)]), (7, [(5, .r 3), (7, .r 1), (11, .s 3 [1])])] [(1, nx), (2, rid), (3, rid)] mixed Try.func33 rfl (by kernel_rfl) (by kernel_rfl) (by simp [Try.ntmps33]) rfl ?_
          simp [hx, hne, n1, n2, n3, n4, n5, n6, n7, n8, n9, n10, n11]
          refine bcall_of0 ha ⟨hbs _ (by simp [n1, n2, n3, n4, n5, n6, n7, n8, n9, n10, n11]), by simp [borF], trivial⟩ rfl ?_
          simp [hx, hne, n1, n2, n3, n4, n5, n6, n7, n8, n9, n10, n11, w1, c, e1, g.1, g.2.1, g.2.2.1, g.2.2.2, gk.1, gk.2.1, gk.2.2.1, gk.2.2.2, w4, w5, e2, z1, hMk]
          refine gcall_of0 (insertL (nx + 1) rid (by omega) L i e (by omega) (by omega)) (by simp) (by simp [sub1, n1, n2, n3, n4, n5, n6, n7, n8, n9, n10, n11]) trivial rfl ?_
          rw [hNe]
          simp [hx, hne, n1, n2, n3, n4, n5, n6, n7, n8, n9, n10, n11, hoff, Try.results33]
          refine ⟨by omega, [(nx, nx + 1)], ?_⟩
          simp [hx, hne, n1, n2, n3, n4, n5, n6, n7, n8, n9, n10, n11, hr, hlm, hid1, hNl]
  · have hj : joinR L e = false := by unfold joinR; rw [hi]; simp [c]
    have hE : putE L e = e ∧ putM L e = L := by unfold putE putM; rw [hj]; simp
    rw [hE.1, hE.2] at hN
    by_cases z : i = 0
    · have z0 : ¬ 0 < i := by omega
      have hNe : L.take i ++ e :: L.drop i = N := by rw [hN]; generalize e = E; rw [z]; simp [joinM]
      have hNl : N.length = L.length + 1 := by rw [← hNe]; simp; omega
      refine gen_of_aw (rs := []) [3] [(3, [(6, .r 1), (8, .r 1), (14, .r 2)]), (4, [(1, .r 1), (6, .r 2), (9, .s 1 [2])]), (6, [(8, .r 3), (14, .r 3), (17, .r 1)]), (7, [(5, .r 3), (7, .r 1), (11, .s 3 [1])])] [(1, nx), (2, rid), (3, rid)] mixed Try.func33 rfl (by kernel_rfl) (by kernel_rfl) (by simp [Try.ntmps33]) rfl ?_
      simp [hx, hne, n1, n2, n3, n4, n5, n6, n7, n8, n9, n10, n11]
      refine bcall_of0 ha ⟨hbs _ (by simp [n1, n2, n3, n4, n5, n6, n7, n8, n9, n10, n11]), by simp [borF], trivial⟩ rfl ?_
      simp [hx, hne, n1, n2, n3, n4, n5, n6, n7, n8, n9, n10, n11, w1, c, z0]
      refine gcall_of0 (insertL (nx + 1) rid (by omega) L i e (by omega) (by omega)) (by simp) (by simp [sub1, n1, n2, n3, n4, n5, n6, n7, n8, n9, n10, n11]) trivial rfl ?_
      rw [hNe]
      simp [hx, hne, n1, n2, n3, n4, n5, n6, n7, n8, n9, n10, n11, hoff, Try.results33]
      refine ⟨by omega, [(nx, nx + 1)], ?_⟩
      simp [hx, hne, n1, n2, n3, n4, n5, n6, n7, n8, n9, n10, n11, hr, hlm, hid1, hNl]
    · obtain ⟨k, hk⟩ : ∃ k, i = k + 1 := ⟨i - 1, by omega⟩
      have z1 : 0 < i := by omega
      have hMk : k < L.length := by omega
      have gk := hat L k hMk
      have hsub : ∀ x ∈ L, x ∈ L := by exact fun x h => h
      have bk := hb _ (hsub _ (List.getElem_mem hMk))
      have w4 : IntKind.i64.wrap ((i : Int) - 1) = (k : Int) := by rw [wrap64_id (by omega) (by omega)]; omega
      have w5 : IntKind.i64.wrap ((L[k].1 : Int) + (L[k].2 : Int)) = (L[k].1 : Int) + (L[k].2 : Int) := wrap64_id (by omega) (by omega)
      by_cases jl : L[k].1 + L[k].2 = e.1
      · have e2 : ((L[k].1 : Int) + (L[k].2 : Int) == (e.1 : Int)) = true := by simp; omega
        have w6 : IntKind.i64.wrap ((L[k].2 : Int) + (e.2 : Int)) = ((L[k].2 + e.2 : Nat) : Int) := by rw [wrap64_id (by omega) (by omega)]; simp
        have hNe : L.take k ++ (L[k].1, L[k].2 + e.2) :: L.drop (k + 1) = N := by rw [hN]; simp only [hk, joinM]; simp [hMk, jl]
        have hNl : N.length = L.length := by rw [← hNe]; simp; omega
        have hset := congrArg (List.map AV.p) (cellsL_set (n := L[k].2 + e.2) hMk)
        rw [hNe] at hset
        simp at hset
        refine gen_of_aw (rs := []) [3] [(3, [(6, .r 1), (8, .r 1), (14, .r 2)]), (4, [(1, .r 1), (6, .r 2), (9, .s 1 [2])]), (6, [(8, .r 3), (14, .r 3), (17, .r 1)]), (7, [(5, .r 3), (7, .r 1), (11, .s 3 [1])])] [(1, nx), (2, rid), (3, rid)] mixed Try.func33 rfl (by kernel_rfl) (by kernel_rfl) (by simp [Try.ntmps33]) rfl ?_
        simp [hx, hne, n1, n2, n3, n4, n5, n6, n7, n8, n9, n10, n11]
        refine bcall_of0 ha ⟨hbs _ (by simp [n1, n2, n3, n4, n5, n6, n7, n8, n9, n10, n11]), by simp [borF], trivial⟩ rfl ?_
        simp [hx, hne, n1, n2, n3, n4, n5, n6, n7, n8, n9, n10, n11, w1, c, gk.1, gk.2.1, gk.2.2.1, gk.2.2.2, w4, w5, w6, e2, z1, hMk]
        refine ⟨by omega, by omega, [(nx, rid)], ?_⟩
        simp [hx, hne, n1, n2, n3, n4, n5, n6, n7, n8, n9, n10, n11, hr, hlm, hid1, hNl, hset]
      · have e2 : ((L[k].1 : Int) + (L[k].2 : Int) == (e.1 : Int)) = false := by simp; omega
        have hNe : L.take i ++ e :: L.drop i = N := by rw [hN]; simp only [hk, joinM]; simp [hMk, jl]
        have hNl : N.length = L.length + 1 := by rw [← hNe]; simp; omega
        refine gen_of_aw (rs := []) [3] [(3, [(6, .r 1), (8, .r 1), (14, .r 2)]), (4, [(1, .r 1), (6, .r 2), (9, .s 1 [2])]), (6, [(8, .r 3), (14, .r 3), (17, .r 1)]), (7, [(5, .r 3), (7, .r 1), (11, .s 3 [1])])] [(1, nx), (2, rid), (3, rid)] mixed Try.func33 rfl (by kernel_rfl) (by kernel_rfl) (by simp [Try.ntmps33]) rfl ?_
        simp [hx, hne, n1, n2, n3, n4, n5, n6, n7, n8, n9, n10, n11]
        refine bcall_of0 ha ⟨hbs _ (by simp [n1, n2, n3, n4, n5, n6, n7, n8, n9, n10, n11]), by simp [borF], trivial⟩ rfl ?_
        simp [hx, hne, n1, n2, n3, n4, n5, n6, n7, n8, n9, n10, n11, w1, c, gk.1, gk.2.1, gk.2.2.1, gk.2.2.2, w4, w5, e2, z1, hMk]
        refine gcall_of0 (insertL (nx + 1) rid (by omega) L i e (by omega) (by omega)) (by simp) (by simp [sub1, n1, n2, n3, n4, n5, n6, n7, n8, n9, n10, n11]) trivial rfl ?_
        rw [hNe]
        simp [hx, hne, n1, n2, n3, n4, n5, n6, n7, n8, n9, n10, n11, hoff, Try.results33]
        refine ⟨by omega, [(nx, nx + 1)], ?_⟩
        simp [hx, hne, n1, n2, n3, n4, n5, n6, n7, n8, n9, n10, n11, hr, hlm, hid1, hNl]
end Go.Av

/-! part P16f -/
namespace Go.Av
open Go.Proofs

/-- an extent taken out -/
def cutA (x e : Ext) : List Ext := if x.1 < e.1 then [(x.1, e.1 - x.1)] else []
def cutB (x e : Ext) : List Ext := if e.1 + e.2 < x.1 + x.2 then [(e.1 + e.2, x.1 + x.2 - e.1 - e.2)] else []
def cutL (L : List Ext) (e : Ext) : List Ext := L.take (aft L e.1) ++ (cutA (L.getD (aft L e.1) (0, 0)) e ++ (cutB (L.getD (aft L e.1) (0, 0)) e ++ L.drop (aft L e.1 + 1)))

set_option maxHeartbeats 4000000 in
set_option maxRecDepth 100000 in
theorem cut41 (nx id rid : Nat) (hid : id < nx) (hrid : rid < nx) (hne : id ≠ rid) (el sz off : Nat) (xs : List AV) (L : List Ext) (e : Ext) (hx : xs[off]? = some (.view rid 0 L.length 2 none)) (hxl : AV.lim.lims nx xs = true)
    (hL : Up L) (hl : L.length ≤ 1000) (hb : ∀ e ∈ L, e.1 + e.2 ≤ 100000) (hh : hasB L e = true) :
    GenC Try.prog 41 [.obj id off, .p (extP e)] ⟨[(id, ⟨el, sz, xs⟩), (rid, rowO L)], [], nx⟩ (.agg true [])
      ⟨[(id, ⟨el, sz, xs.take off ++ .view nx 0 (cutL L e).length 2 none :: xs.drop (off + 1)⟩), (nx, rowO (cutL L e))], [], nx + 1⟩ := by
  have c : aft L e.1 < L.length := by
    rcases Nat.lt_or_ge (aft L e.1) L.length with h | h
    · exact h
    · unfold hasB at hh; rw [List.getElem?_eq_none h] at hh; cases hh
  have hx1 : L[aft L e.1].1 ≤ e.1 ∧ e.1 + e.2 ≤ L[aft L e.1].1 + L[aft L e.1].2 := by
    unfold hasB at hh; simp [c] at hh; exact hh
  have hbx := hb L[aft L e.1] (by simp)
  have he : e.1 + e.2 ≤ 100000 := by omega
  have n1 : ¬ id = nx := by omega
  have n2 : ¬ rid = nx := by omega
  have n3 : ¬ nx = id := by omega
  have n4 : ¬ nx = rid := by omega
  have n5 : ¬ rid = id := by omega
  have n6 : ¬ id = nx + 1 := by omega
  have n7 : ¬ nx + 1 = id := by omega
  have n8 : ¬ rid = nx + 1 := by omega
  have n9 : ¬ nx + 1 = rid := by omega
  have n10 : ¬ id = nx + 1 + 1 := by omega
  have n11 : ¬ nx + 1 + 1 = id := by omega
  have n12 : ¬ id = nx + 1 + 1 + 1 := by omega
  have n13 : ¬ nx + 1 + 1 + 1 = id := by omega
  have hid1 : id < nx + 1 := by omega
  have hoff : off < xs.length := by
    rcases Nat.lt_or_ge off xs.length with h | h
    · exact h
    · rw [List.getElem?_eq_none h] at hx; cases hx
  have ha := after44 L e.1 hL (by omega) (fun e he => by have := hb e he; omega) (by omega)
  have hr : ∀ k, AV.ren.rens (rnF [(nx, k)]) xs = xs := fun k => rens_old (nx := nx) (by simp) xs hxl
  have hlm : ∀ k, nx ≤ k → AV.lim.lims k xs = true := fun k hk => lims_mono hk xs hxl
  have hbs : ∀ bx, lk rid bx = some (rowO L) → borF bx 4 (.view rid 0 L.length 2 none) (setP L) := fun bx h => bor_set h rfl
  have hN : cutL L e = L.take (aft L e.1) ++ (cutA L[aft L e.1] e ++ (cutB L[aft L e.1] e ++ L.drop (aft L e.1 + 1))) := by unfold cutL; simp [c]
  generalize cutL L e = N at *
  generalize hi : aft L e.1 = i at *
  have hload : (((cellsL L).map AV.p).drop (i * 2)).take 2 = [.p (.int L[i].1), .p (.int L[i].2)] := by
    rw [← List.map_drop, cellsL_drop, show L.drop i = L[i] :: L.drop (i + 1) from List.drop_eq_getElem_cons c, cellsL_cons]; simp only [List.map_cons, List.take_succ_cons, List.take_zero]
  obtain ⟨a, n⟩ := e
  generalize hxe : L[i] = x at hx1 hbx hN hload
  obtain ⟨u, v⟩ := x
  simp only at hx1 hbx he
  have h2 : i * 2 + 2 ≤ L.length * 2 := by omega
  have w0 : IntKind.i64.wrap ((i : Int) + 1) = (i : Int) + 1 := wrap64_id (by omega) (by omega)
  have w1 : IntKind.i64.wrap ((u : Int) + (v : Int)) = (u : Int) + (v : Int) := wrap64_id (by omega) (by omega)
  have w2 : IntKind.i64.wrap ((u : Int) + (v : Int) - (a : Int)) = (u : Int) + (v : Int) - (a : Int) := wrap64_id (by omega) (by omega)
  have w3 : IntKind.i64.wrap ((u : Int) + (v : Int) - (a : Int) - (n : Int)) = ((u + v - a - n : Nat) : Int) := by rw [wrap64_id (by omega) (by omega)]; omega
  have w4 : IntKind.i64.wrap ((a : Int) - (u : Int)) = ((a - u : Nat) : Int) := by rw [wrap64_id (by omega) (by omega)]; omega
  have w5 : IntKind.i64.wrap ((a : Int) + (n : Int)) = (a : Int) + (n : Int) := wrap64_id (by omega) (by omega)
  obtain ⟨M, hMd⟩ : ∃ M, M = L.take i ++ L.drop (i + 1) := ⟨_, rfl⟩
  have hMl : M.length = L.length - 1 := by rw [hMd]; simp; omega
  have hMt : M.take i = L.take i := by rw [hMd, List.take_append_of_le_length (by simp; omega), List.take_take, Nat.min_self]
  have hMr : M.drop i = L.drop (i + 1) := by rw [hMd, List.drop_append, List.length_take, Nat.min_eq_left (by omega), Nat.sub_self, List.drop_of_length_le (by simp; omega)]; simp
  by_cases cA : u < a
  · by_cases cB : a + n < u + v
    · have cA : u < a := by omega
      have cA2 : 0 < a - u := by omega
      have cB2 : 0 < u + v - a - n := by omega
      have eA : cutA (u, v) (a, n) = [(u, a - u)] := by unfold cutA; rw [if_pos (by simp only; omega)]
      have eB : cutB (u, v) (a, n) = [(a + n, u + v - a - n)] := by unfold cutB; rw [if_pos (by simp only; omega)]
      rw [eA, eB] at hN
      obtain ⟨M2, hM2⟩ : ∃ M2, M2 = M.take i ++ (a + n, u + v - a - n) :: M.drop i := ⟨_, rfl⟩
      have hM2l : M2.length = M.length + 1 := by rw [hM2]; simp; omega
      have hM2t : M2.take i = L.take i := by rw [hM2, List.take_append_of_le_length (by simp; omega), List.take_take, Nat.min_self, hMt]
      have hM2r : M2.drop i = (a + n, u + v - a - n) :: L.drop (i + 1) := by rw [hM2, hMr, hMt, List.drop_append, List.length_take, Nat.min_eq_left (by omega), Nat.sub_self, List.drop_of_length_le (by simp; omega)]; simp
      have hN2 : M2.take i ++ (u, a - u) :: M2.drop i = N := by rw [hN, hM2t, hM2r]; simp
      have hNl : N.length = M2.length + 1 := by rw [← hN2]; simp; omega
      refine gen_of_aw (rs := []) [] [] [] mixed Try.func41 rfl (by kernel_rfl) (by kernel_rfl) (by simp [Try.ntmps41]) rfl ?_
      simp [hx, hne, n1, n2, n3, n4, n5, n6, n7, n8, n9, n10, n11, n12, n13]
      refine bcall_of0 ha ⟨hbs _ (by simp [n1, n2, n3, n4, n5, n6, n7, n8, n9, n10, n11, n12, n13]), by simp [borF], trivial⟩ rfl ?_
      simp [hx, hne, n1, n2, n3, n4, n5, n6, n7, n8, n9, n10, n11, n12, n13, c, hload, w0, h2]
      refine gcall_of0 (deleteL (nx + 1) rid (by omega) L i c (by omega)) (by simp) (by simp [sub1, n1, n2, n3, n4, n5, n6, n7, n8, n9, n10, n11, n12, n13]) trivial rfl ?_
      rw [← hMd, ← hMl]
      simp [hx, hne, n1, n2, n3, n4, n5, n6, n7, n8, n9, n10, n11, n12, n13, w1, w2, w3, w4, w5, cB2, cA2, hoff]
      refine gcall_of0 (insertL (nx + 1 + 1) (nx + 1) (by omega) M i (a + n, u + v - a - n) (by omega) (by omega)) (by simp) (by simp [sub1, n1, n2, n3, n4, n5, n6, n7, n8, n9, n10, n11, n12, n13]) trivial rfl ?_
      rw [← hM2, ← hM2l]
      simp [hx, hne, n1, n2, n3, n4, n5, n6, n7, n8, n9, n10, n11, n12, n13, w1, w2, w3, w4, w5, cB2, cA2, hoff]
      refine gcall_of0 (insertL (nx + 1 + 1 + 1) (nx + 1 + 1) (by omega) M2 i (u, a - u) (by omega) (by omega)) (by simp) (by simp [sub1, n1, n2, n3, n4, n5, n6, n7, n8, n9, n10, n11, n12, n13]) trivial rfl ?_
      rw [hN2]
      simp [hx, hne, n1, n2, n3, n4, n5, n6, n7, n8, n9, n10, n11, n12, n13, w1, w2, w3, w4, w5, cB2, cA2, hoff]
      refine ⟨by omega, [(nx, nx + 1 + 1 + 1)], ?_⟩
      simp [hx, hne, n1, n2, n3, n4, n5, n6, n7, n8, n9, n10, n11, n12, n13, hr, hlm, hid1, hNl]
    · have cA : u < a := by omega
      have cA2 : 0 < a - u := by omega
      have cB2 : ¬ 0 < u + v - a - n := by omega
      have eA : cutA (u, v) (a, n) = [(u, a - u)] := by unfold cutA; rw [if_pos (by simp only; omega)]
      have eB : cutB (u, v) (a, n) = [] := by unfold cutB; rw [if_neg (by simp only; omega)]
      rw [eA, eB] at hN
      have hN2 : M.take i ++ (u, a - u) :: M.drop i = N := by rw [hN, hMt, hMr]; simp
      have hNl : N.length = M.length + 1 := by rw [← hN2]; simp; omega
      refine gen_of_aw (rs := []) [] [] [] mixed Try.func41 rfl (by kernel_rfl) (by kernel_rfl) (by simp [Try.ntmps41]) rfl ?_
      simp [hx, hne, n1, n2, n3, n4, n5, n6, n7, n8, n9, n10, n11, n12, n13]
      refine bcall_of0 ha ⟨hbs _ (by simp [n1, n2, n3, n4, n5, n6, n7, n8, n9, n10, n11, n12, n13]), by simp [borF], trivial⟩ rfl ?_
      simp [hx, hne, n1, n2, n3, n4, n5, n6, n7, n8, n9, n10, n11, n12, n13, c, hload, w0, h2]
      refine gcall_of0 (deleteL (nx + 1) rid (by omega) L i c (by omega)) (by simp) (by simp [sub1, n1, n2, n3, n4, n5, n6, n7, n8, n9, n10, n11, n12, n13]) trivial rfl ?_
      rw [← hMd, ← hMl]
      simp [hx, hne, n1, n2, n3, n4, n5, n6, n7, n8, n9, n10, n11, n12, n13, w1, w2, w3, w4, w5, cB2, cA2, hoff]
      refine gcall_of0 (insertL (nx + 1 + 1) (nx + 1) (by omega) M i (u, a - u) (by omega) (by omega)) (by simp) (by simp [sub1, n1, n2, n3, n4, n5, n6, n7, n8, n9, n10, n11, n12, n13]) trivial rfl ?_
      rw [hN2]
      simp [hx, hne, n1, n2, n3, n4, n5, n6, n7, n8, n9, n10, n11, n12, n13, w1, w2, w3, w4, w5, cB2, cA2, hoff]
      refine ⟨by omega, [(nx, nx + 1 + 1)], ?_⟩
      simp [hx, hne, n1, n2, n3, n4, n5, n6, n7, n8, n9, n10, n11, n12, n13, hr, hlm, hid1, hNl]
  · by_cases cB : a + n < u + v
    · have cA : ¬ u < a := by omega
      have cA2 : ¬ 0 < a - u := by omega
      have cB2 : 0 < u + v - a - n := by omega
      have eA : cutA (u, v) (a, n) = [] := by unfold cutA; rw [if_neg (by simp only; omega)]
      have eB : cutB (u, v) (a, n) = [(a + n, u + v - a - n)] := by unfold cutB; rw [if_pos (by simp only; omega)]
      rw [eA, eB] at hN
      obtain ⟨M2, hM2⟩ : ∃ M2, M2 = M.take i ++ (a + n, u + v - a - n) :: M.drop i := ⟨_, rfl⟩
      have hM2l : M2.length = M.length + 1 := by rw [hM2]; simp; omega
      have hM2t : M2.take i = L.take i := by rw [hM2, List.take_append_of_le_length (by simp; omega), List.take_take, Nat.min_self, hMt]
      have hM2r : M2.drop i = (a + n, u + v - a - n) :: L.drop (i + 1) := by rw [hM2, hMr, hMt, List.drop_append, List.length_take, Nat.min_eq_left (by omega), Nat.sub_self, List.drop_of_length_le (by simp; omega)]; simp
      have hN2 : M2 = N := by rw [hN, hM2, hMt, hMr]; simp
      have hNl : N.length = M2.length := by rw [hN2]
      refine gen_of_aw (rs := []) [] [] [] mixed Try.func41 rfl (by kernel_rfl) (by kernel_rfl) (by simp [Try.ntmps41]) rfl ?_
      simp [hx, hne, n1, n2, n3, n4, n5, n6, n7, n8, n9, n10, n11, n12, n13]
      refine bcall_of0 ha ⟨hbs _ (by simp [n1, n2, n3, n4, n5, n6, n7, n8, n9, n10, n11, n12, n13]), by simp [borF], trivial⟩ rfl ?_
      simp [hx, hne, n1, n2, n3, n4, n5, n6, n7, n8, n9, n10, n11, n12, n13, c, hload, w0, h2]
      refine gcall_of0 (deleteL (nx + 1) rid (by omega) L i c (by omega)) (by simp) (by simp [sub1, n1, n2, n3, n4, n5, n6, n7, n8, n9, n10, n11, n12, n13]) trivial rfl ?_
      rw [← hMd, ← hMl]
      simp [hx, hne, n1, n2, n3, n4, n5, n6, n7, n8, n9, n10, n11, n12, n13, w1, w2, w3, w4, w5, cB2, cA2, hoff]
      refine gcall_of0 (insertL (nx + 1 + 1) (nx + 1) (by omega) M i (a + n, u + v - a - n) (by omega) (by omega)) (by simp) (by simp [sub1, n1, n2, n3, n4, n5, n6, n7, n8, n9, n10, n11, n12, n13]) trivial rfl ?_
      rw [← hM2, ← hM2l]
      simp [hx, hne, n1, n2, n3, n4, n5, n6, n7, n8, n9, n10, n11, n12, n13, w1, w2, w3, w4, w5, cB2, cA2, hoff]
      refine ⟨by omega, [(nx, nx + 1 + 1)], ?_⟩
      simp [hx, hne, n1, n2, n3, n4, n5, n6, n7, n8, n9, n10, n11, n12, n13, hr, hlm, hid1, hNl, hN2]
    · have cA : ¬ u < a := by omega
      have cA2 : ¬ 0 < a - u := by omega
      have cB2 : ¬ 0 < u + v - a - n := by omega
      have eA : cutA (u, v) (a, n) = [] := by unfold cutA; rw [if_neg (by simp only; omega)]
      have eB : cutB (u, v) (a, n) = [] := by unfold cutB; rw [if_neg (by simp only; omega)]
      rw [eA, eB] at hN
      have hN2 : M = N := by rw [hN, hMd]; simp
      have hNl : N.length = M.length := by rw [hN2]
      refine gen_of_aw (rs := []) [] [] [] mixed Try.func41 rfl (by kernel_rfl) (by kernel_rfl) (by simp [Try.ntmps41]) rfl ?_
      simp [hx, hne, n1, n2, n3, n4, n5, n6, n7, n8, n9, n10, n11, n12, n13]
      refine bcall_of0 ha ⟨hbs _ (by simp [n1, n2, n3, n4, n5, n6, n7, n8, n9, n10, n11, n12, n13]), by simp [borF], trivial⟩ rfl ?_
      simp [hx, hne, n1, n2, n3, n4, n5, n6, n7, n8, n9, n10, n11, n12, n13, c, hload, w0, h2]
      refine gcall_of0 (deleteL (nx + 1) rid (by omega) L i c (by omega)) (by simp) (by simp [sub1, n1, n2, n3, n4, n5, n6, n7, n8, n9, n10, n11, n12, n13]) trivial rfl ?_
      rw [← hMd, ← hMl]
      simp [hx, hne, n1, n2, n3, n4, n5, n6, n7, n8, n9, n10, n11, n12, n13, w1, w2, w3, w4, w5, cB2, cA2, hoff]
      refine ⟨by omega, [(nx, nx + 1)], ?_⟩
      simp [hx, hne, n1, n2, n3, n4, n5, n6, n7, n8, n9, n10, n11, n12, n13, hr, hlm, hid1, hNl, hN2]
end Go.Av
