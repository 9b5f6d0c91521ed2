/- What slices.Delete, Insert, Clone, Concat and a node's methods compute. -/
import Derived.Test.YtfonhoahpmjjbaaFa
set_option linter.all false
/-! part W01 -/
namespace Go.Av
open Go.Proofs
set_option maxRecDepth 100000


theorem mixed : Try.prog.follows .mixedOrders = true := by kernel_rfl
@[simp] theorem u8_lt {x y : UInt8} : (decide ((x.toNat : Int) < (y.toNat : Int))) = decide (x < y) := by
  simp [UInt8.lt_iff_toNat_lt]
@[simp] theorem u8_ne {x y : UInt8} : ((x.toNat : Int) != (y.toNat : Int)) = (x != y) := by
  rw [Bool.eq_iff_iff]; simp [← UInt8.toNat_inj]; omega
theorem less_at {a b : List UInt8} {k : Nat} (h : a.take k = b.take k) (ha : k ≤ a.length) (hb : k ≤ b.length) : Op.bytesLess a b = Op.bytesLess (a.drop k) (b.drop k) := by
  induction k generalizing a b with
  | zero => simp
  | succ k ih =>
    match a, b, ha, hb with
    | x :: a, y :: b, ha, hb =>
      simp at h ha hb
      obtain ⟨rfl, h⟩ := h
      simp [Op.bytesLess, ih h ha hb]
theorem less_ne {a b : List UInt8} {k : Nat} (h : a.take k = b.take k) (ha : k < a.length) (hb : k < b.length) (hn : a[k] ≠ b[k]) : Op.bytesLess a b = decide (a[k] < b[k]) := by
  rw [less_at h (by omega) (by omega), List.drop_eq_getElem_cons ha, List.drop_eq_getElem_cons hb]
  simp [Op.bytesLess, hn]
theorem less_end {a b : List UInt8} {k : Nat} (h : a.take k = b.take k) (ha : k ≤ a.length) (hb : k ≤ b.length) (hn : k = a.length ∨ k = b.length) : Op.bytesLess a b = decide (a.length < b.length) := by
  rw [less_at h ha hb]
  rcases hn with rfl | rfl
  · rw [List.drop_length]
    cases hd : b.drop a.length with
    | nil => have := congrArg List.length hd; simp at this; simp [Op.bytesLess]; omega
    | cons x l => have := congrArg List.length hd; simp at this; simp [Op.bytesLess]; omega
  · rw [List.drop_length]
    simp [Op.bytesLess]; omega
set_option maxHeartbeats 400000 in
theorem less_p (a b : List UInt8) (ha : a.length ≤ 9223372036854775807) (hb : b.length ≤ 9223372036854775807) : PureC Try.prog 43 [.str a, .str b] (.bool (Op.bytesLess a b)) := by
  refine pure_of_aw (ys := [.bool _]) [] [] [] mixed Try.func43 rfl (by kernel_rfl) (by kernel_rfl) (by simp [Try.ntmps43]) rfl ?_
  simp
  refine aw_loop0 (fun k : Nat => k ≤ a.length ∧ k ≤ b.length ∧ a.take k = b.take k) (fun k => [(0, .p (.str a)), (1, .p (.str b)), (5, .p (.int k))]) (fun k => a.length - k) 0 (by simp) (leN_id (by simp)) ?_
  rintro k ⟨h1, h2, h3⟩
  by_cases c1 : k < a.length
  · by_cases c2 : k < b.length
    · by_cases c3 : a[k] = b[k]
      · simp [c1, c2, c3]
        refine ⟨k + 1, ⟨by omega, by omega, ?_⟩, by omega, leN_id ?_⟩
        · rw [List.take_succ_eq_append_getElem c1, List.take_succ_eq_append_getElem c2, h3, c3]
        · simp [wrap64_id (n := (k : Int) + 1) (by omega) (by omega)]
      · have c4 : (a[k] != b[k]) = true := by simpa using c3
        simp [c1, c2, c4, Try.results43, less_ne h3 c1 c2 c3, UInt8.lt_iff_toNat_lt]
    · simp [c1, c2, Try.results43, less_end h3 h1 h2 (by omega)]
  · simp [c1, Try.results43, less_end h3 h1 h2 (by omega)]
end Go.Av

/-! part W02 -/
namespace Go.Av
open Go.Proofs
set_option maxRecDepth 100000


abbrev nodeP (l : Bool) (ks : List (List UInt8)) (vs : List Int) : PC := .agg false [.bool l, .sl (ks.map PC.str), .sl (vs.map PC.int)]
def below (p : List UInt8 → Bool) (ks : List (List UInt8)) : Nat := (ks.takeWhile p).length
theorem below_le (p : List UInt8 → Bool) (ks : List (List UInt8)) : below p ks ≤ ks.length := by
  induction ks with
  | nil => simp [below]
  | cons a ks ih => unfold below at *; simp only [List.takeWhile_cons, List.length_cons]; split <;> simp <;> omega
theorem below_of {p : List UInt8 → Bool} {ks : List (List UInt8)} {k : Nat} (h : ∀ x ∈ ks.take k, p x = true) (hk : k ≤ ks.length) (he : (hk : k < ks.length) → p ks[k] = false) : below p ks = k := by
  induction ks generalizing k with
  | nil => simp at hk; simp [below, hk]
  | cons a ks ih =>
    cases k with
    | zero => have := he (by simp); simp at this; simp [below, this]
    | succ k =>
      have ha := h a (by simp)
      have := ih (k := k) (fun x hx => h x (by simp [hx])) (by simpa using hk) (fun hk' => by have := he (by simp; omega); simpa using this)
      unfold below at *; simp [ha, this]
end Go.Av

/-! part W03 -/
namespace Go.Av
open Go.Proofs

theorem ovl_72 : OvlC Try.prog 72 := ⟨Try.f72, 48, 4, 9, Try.func72, by kernel_rfl, by kernel_rfl, by kernel_rfl, by kernel_rfl, by kernel_rfl, by kernel_rfl⟩

theorem ovl_74 : OvlC Try.prog 74 := ⟨Try.f74, 49, 4, 3, Try.func74, by kernel_rfl, by kernel_rfl, by kernel_rfl, by kernel_rfl, by kernel_rfl, by kernel_rfl⟩

theorem can_70 : CanCall Try.prog 70 := ⟨Try.f70, Try.func70, by kernel_rfl, by kernel_rfl⟩

set_option maxHeartbeats 400000 in
theorem clone70 (nx : Nat) (xs : List PC) (hw : ∀ x ∈ xs, x.width = 1) (ht : ∀ x ∈ xs, noTup x = true) (hb : xs.length ≤ 1000000000000) :
    GenC Try.prog 70 [.p (.sl xs)] ⟨[], [], nx⟩ (.view nx 0 xs.length 1 none) ⟨[(nx, ⟨9, 1, (xs.flatMap pcs).map .p⟩)], [], nx + 1⟩ := by
  refine gen_nil (pre := []) (post := []) can_70 ?_ ?_
  · rintro rfl
    refine gen_void (r := .p .nil) (tb' := ⟨[], [], nx⟩) (el := 9) (s := 1) ?_ trivial
    refine gen_of_aw (rs := [.p .nil]) [7] [] [] mixed Try.func70 rfl (by kernel_rfl) (by kernel_rfl) (by simp [Try.ntmps70]) rfl ?_
    simp [Try.results70]
    exact ⟨[], by simp⟩
  · refine gen_of_aw (rs := [_]) [7] [] [] mixed Try.func70 rfl (by kernel_rfl) (by kernel_rfl) (by simp [Try.ntmps70]) rfl ?_
    simp [Try.results70]
    refine ⟨hw, ht, by omega, by omega, [], ?_⟩
    simp

theorem can_71 : CanCall Try.prog 71 := ⟨Try.f71, Try.func71, by kernel_rfl, by kernel_rfl⟩

set_option maxHeartbeats 400000 in
theorem clone71 (nx : Nat) (xs : List PC) (hw : ∀ x ∈ xs, x.width = 1) (ht : ∀ x ∈ xs, noTup x = true) (hb : xs.length ≤ 1000000000000) :
    GenC Try.prog 71 [.p (.sl xs)] ⟨[], [], nx⟩ (.view nx 0 xs.length 1 none) ⟨[(nx, ⟨3, 1, (xs.flatMap pcs).map .p⟩)], [], nx + 1⟩ := by
  refine gen_nil (pre := []) (post := []) can_71 ?_ ?_
  · rintro rfl
    refine gen_void (r := .p .nil) (tb' := ⟨[], [], nx⟩) (el := 3) (s := 1) ?_ trivial
    refine gen_of_aw (rs := [.p .nil]) [7] [] [] mixed Try.func71 rfl (by kernel_rfl) (by kernel_rfl) (by simp [Try.ntmps71]) rfl ?_
    simp [Try.results71]
    exact ⟨[], by simp⟩
  · refine gen_of_aw (rs := [_]) [7] [] [] mixed Try.func71 rfl (by kernel_rfl) (by kernel_rfl) (by simp [Try.ntmps71]) rfl ?_
    simp [Try.results71]
    refine ⟨hw, ht, by omega, by omega, [], ?_⟩
    simp

theorem can_53 : CanCall Try.prog 53 := ⟨Try.f53, Try.func53, by kernel_rfl, by kernel_rfl⟩

set_option maxHeartbeats 1000000 in
theorem delete53 (nx id : Nat) (hid : id < nx) (cs : List PC) (n i j : Nat) (hn : cs.length = n * 1) (hij : i ≤ j) (hj : j ≤ n) (hb : n ≤ 1000000000000) :
    GenC Try.prog 53 [.view id 0 n 1 none, .p (.int i), .p (.int j)] ⟨[(id, ⟨9, 1, cs.map .p⟩)], [], nx⟩
      (.view nx 0 (n - (j - i)) 1 none) ⟨[(nx, ⟨9, 1, (cs.take (i * 1) ++ cs.drop (j * 1)).map .p⟩)], [], nx + 1⟩ := by
  have hne : ¬ id = nx := by omega
  have hne2 : ¬ nx = id := by omega
  have hcl : (cs.map AV.p).length = n := by simp; omega
  refine gen_split (pre := []) (post := [_, _]) can_53 (fun c h1 h2 h3 => ?_) ?_
  · refine gen_of_aw (rs := [_]) [] [(5, [(6, .w [])])] [] mixed Try.func53 rfl (by kernel_rfl) (by kernel_rfl) (by simp [Try.ntmps53]) rfl ?_
    generalize hA : cs.map AV.p = A at *
    by_cases c0 : i = j
    · subst c0
      have hd : List.take i A ++ List.drop i A = A := List.take_append_drop _ _
      simp [Try.results53, hne, hne2]
      exact ⟨hj, [(nx, id)], by simp [hA]⟩
    · have e0 : ((i : Int) == (j : Int)) = false := by rw [beq_eq_false_iff_ne]; omega
      have t1 : ((i : Int) + ((n - j : Nat) : Int)).toNat = i + (n - j) := by omega
      have key := fun R => spl_del (R := R) hcl hij hj rfl
      simp [e0, t1, Try.results53, hne, hne2]
      repeat' refine And.intro ?_ ?_
      all_goals first | omega | skip
      refine .inl ?_
      repeat' refine And.intro ?_ ?_
      all_goals first | omega | (simp; omega) | skip
      refine ⟨[(nx, id)], ?_⟩
      simp [hA, key]
      omega
  · intro hn0
    have hi0 : i = 0 := by omega
    have hj0 : j = 0 := by omega
    have hc0 : cs = [] := List.eq_nil_of_length_eq_zero (by omega)
    subst hi0; subst hj0; subst hc0; subst hn0
    refine gen_void (r := .full []) (tb' := ⟨[], [], nx⟩) (el := 9) (s := 1) ?_ trivial
    refine gen_of_aw (rs := [_]) [] [(5, [(6, .w [])])] [] mixed Try.func53 rfl (by kernel_rfl) (by kernel_rfl) (by simp [Try.ntmps53]) rfl ?_
    simp [Try.results53]
    repeat' refine And.intro ?_ ?_
    all_goals first | omega | exact ⟨[], by simp⟩ | simp

theorem can_54 : CanCall Try.prog 54 := ⟨Try.f54, Try.func54, by kernel_rfl, by kernel_rfl⟩

set_option maxHeartbeats 1000000 in
theorem delete54 (nx id : Nat) (hid : id < nx) (cs : List PC) (n i j : Nat) (hn : cs.length = n * 1) (hij : i ≤ j) (hj : j ≤ n) (hb : n ≤ 1000000000000) :
    GenC Try.prog 54 [.view id 0 n 1 none, .p (.int i), .p (.int j)] ⟨[(id, ⟨3, 1, cs.map .p⟩)], [], nx⟩
      (.view nx 0 (n - (j - i)) 1 none) ⟨[(nx, ⟨3, 1, (cs.take (i * 1) ++ cs.drop (j * 1)).map .p⟩)], [], nx + 1⟩ := by
  have hne : ¬ id = nx := by omega
  have hne2 : ¬ nx = id := by omega
  have hcl : (cs.map AV.p).length = n := by simp; omega
  refine gen_split (pre := []) (post := [_, _]) can_54 (fun c h1 h2 h3 => ?_) ?_
  · refine gen_of_aw (rs := [_]) [] [(5, [(6, .w [])])] [] mixed Try.func54 rfl (by kernel_rfl) (by kernel_rfl) (by simp [Try.ntmps54]) rfl ?_
    generalize hA : cs.map AV.p = A at *
    by_cases c0 : i = j
    · subst c0
      have hd : List.take i A ++ List.drop i A = A := List.take_append_drop _ _
      simp [Try.results54, hne, hne2]
      exact ⟨hj, [(nx, id)], by simp [hA]⟩
    · have e0 : ((i : Int) == (j : Int)) = false := by rw [beq_eq_false_iff_ne]; omega
      have t1 : ((i : Int) + ((n - j : Nat) : Int)).toNat = i + (n - j) := by omega
      have key := fun R => spl_del (R := R) hcl hij hj rfl
      simp [e0, t1, Try.results54, hne, hne2]
      repeat' refine And.intro ?_ ?_
      all_goals first | omega | skip
      refine .inl ?_
      repeat' refine And.intro ?_ ?_
      all_goals first | omega | (simp; omega) | skip
      refine ⟨[(nx, id)], ?_⟩
      simp [hA, key]
      omega
  · intro hn0
    have hi0 : i = 0 := by omega
    have hj0 : j = 0 := by omega
    have hc0 : cs = [] := List.eq_nil_of_length_eq_zero (by omega)
    subst hi0; subst hj0; subst hc0; subst hn0
    refine gen_void (r := .full []) (tb' := ⟨[], [], nx⟩) (el := 3) (s := 1) ?_ trivial
    refine gen_of_aw (rs := [_]) [] [(5, [(6, .w [])])] [] mixed Try.func54 rfl (by kernel_rfl) (by kernel_rfl) (by simp [Try.ntmps54]) rfl ?_
    simp [Try.results54]
    repeat' refine And.intro ?_ ?_
    all_goals first | omega | exact ⟨[], by simp⟩ | simp

theorem take_snoc {α : Type} {l : List α} {k : Nat} (h : k < l.length) : l.take (k + 1) = l.take k ++ [l[k]] := List.take_succ_eq_append_getElem h
theorem sum_take_le (l : List Nat) (k : Nat) : (l.take k).sum ≤ l.sum := by
  have := List.sum_append (l₁ := l.take k) (l₂ := l.drop k)
  rw [List.take_append_drop] at this; omega

set_option maxHeartbeats 1000000 in
theorem grow89 (nx k : Nat) (hb : k ≤ 4000000000000) :
    GenC Try.prog 89 [.p .nil, .p (.int k)] ⟨[], [], nx⟩ (.view nx 0 0 1 none) ⟨[(nx, ⟨9, 1, []⟩)], [], nx + 1⟩ := by
  have w1 : IntKind.i64.wrap (k : Int) = k := wrap64_id (by omega) (by omega)
  by_cases h0 : k = 0
  · subst h0
    refine gen_void (r := .p .nil) (tb' := ⟨[], [], nx⟩) (el := 9) (s := 1) ?_ trivial
    refine gen_of_aw (rs := [_]) [22] [] [] mixed Try.func89 rfl (by kernel_rfl) (by kernel_rfl) (by simp [Try.ntmps89]) rfl ?_
    have z : IntKind.i64.wrap 0 = 0 := wrap64_id (by omega) (by omega)
    simp [Try.results89, z]
    exact ⟨[], by simp⟩
  · have e0 : 0 < k := by omega
    have z : IntKind.i64.wrap 0 = 0 := wrap64_id (by omega) (by omega)
    refine gen_of_aw (rs := [_]) [22] [] [] mixed Try.func89 rfl (by kernel_rfl) (by kernel_rfl) (by simp [Try.ntmps89]) rfl ?_
    simp [Try.results89, w1, z, e0]
    exact ⟨by omega, by omega, [], by simp⟩


set_option maxHeartbeats 1000000 in
theorem grow90 (nx k : Nat) (hb : k ≤ 4000000000000) :
    GenC Try.prog 90 [.p .nil, .p (.int k)] ⟨[], [], nx⟩ (.view nx 0 0 1 none) ⟨[(nx, ⟨3, 1, []⟩)], [], nx + 1⟩ := by
  have w1 : IntKind.i64.wrap (k : Int) = k := wrap64_id (by omega) (by omega)
  by_cases h0 : k = 0
  · subst h0
    refine gen_void (r := .p .nil) (tb' := ⟨[], [], nx⟩) (el := 3) (s := 1) ?_ trivial
    refine gen_of_aw (rs := [_]) [22] [] [] mixed Try.func90 rfl (by kernel_rfl) (by kernel_rfl) (by simp [Try.ntmps90]) rfl ?_
    have z : IntKind.i64.wrap 0 = 0 := wrap64_id (by omega) (by omega)
    simp [Try.results90, z]
    exact ⟨[], by simp⟩
  · have e0 : 0 < k := by omega
    have z : IntKind.i64.wrap 0 = 0 := wrap64_id (by omega) (by omega)
    refine gen_of_aw (rs := [_]) [22] [] [] mixed Try.func90 rfl (by kernel_rfl) (by kernel_rfl) (by simp [Try.ntmps90]) rfl ?_
    simp [Try.results90, w1, z, e0]
    exact ⟨by omega, by omega, [], by simp⟩


set_option maxHeartbeats 1000000 in
theorem concat77 (nx : Nat) (L : List (List PC)) (hw : ∀ l ∈ L, ∀ x ∈ l, x.width = 1) (ht : ∀ l ∈ L, ∀ x ∈ l, noTup x = true) (hb : (L.map List.length).sum ≤ 1000000000000) (hb2 : L.length ≤ 1000000000000) :
    GenC Try.prog 77 [.p (.sl (L.map .sl))] ⟨[], [], nx⟩ (.view nx 0 (L.map List.length).sum 1 none) ⟨[(nx, ⟨9, 1, (L.flatten.flatMap pcs).map .p⟩)], [], nx + 1⟩ := by
  refine gen_of_aw (rs := [_]) [] [] [] mixed Try.func77 rfl (by kernel_rfl) (by kernel_rfl) (by simp [Try.ntmps77]) rfl ?_
  simp
  refine aw_loop0 (fun k : Nat => k ≤ L.length) (fun k => [(0, .p (.sl (L.map .sl))), (2, .p .nil), (9, .p (.sl (L.map .sl))), (10, .p (.int L.length)), (3, .p (.int ((L.map List.length).take k).sum)), (11, .p (.int k))]) (fun k => L.length - k) 0 (by simp) (leN_id (by simp)) ?_
  intro k hk
  by_cases c1 : k < L.length
  · have e1 : decide ((k : Int) < L.length) = true := by simp; omega
    have hs : ((L.map List.length).take (k + 1)).sum = ((L.map List.length).take k).sum + L[k].length := by
      rw [take_snoc (by simpa using c1)]; simp
    have hsle := sum_take_le (L.map List.length) (k + 1)
    have w1 : IntKind.i64.wrap ((((L.map List.length).take k).sum : Int) + (L[k].length : Int)) = (((L.map List.length).take (k + 1)).sum : Int) := by rw [hs]; push_cast; exact wrap64_id (by omega) (by omega)
    have w2 : IntKind.i64.wrap ((k : Int) + 1) = ((k + 1 : Nat) : Int) := by rw [wrap64_id (by omega) (by omega)]; rfl
    have e2 : decide ((((L.map List.length).take (k + 1)).sum : Int) < 0) = false := by simp
    simp [c1, e1, w1, w2, e2]
    refine ⟨k + 1, by omega, by omega, leN_id ?_⟩
    simp
  · have e1 : decide ((k : Int) < L.length) = false := by simp; omega
    have hk' : (L.map List.length).take k = L.map List.length := List.take_of_length_le (by simp; omega)
    simp [c1, e1, hk']
    refine gcall_of0 (grow89 nx (L.map List.length).sum (by omega)) (by simp) trivial trivial rfl ?_
    simp
    refine aw_loop (fun k : Nat => k ≤ L.length)
      (fun k => [(0, .p (.sl (L.map .sl))), (2, .p .nil), (25, .p (.sl (L.map .sl))), (26, .p (.int L.length)), (6, .view nx 0 ((L.map List.length).take k).sum 1 none), (27, .p (.int k))])
      (fun k => ⟨[(nx, ⟨9, 1, ((L.take k).flatten.flatMap pcs).map .p⟩)], [], nx + 1⟩) (fun k => L.length - k) 0 (by simp) _ (AS.le_refl _ _) (leN_id (by simp)) ?_
    clear hk c1 e1 hk' k
    intro k hk
    by_cases c1 : k < L.length
    · have e1 : decide ((k : Int) < L.length) = true := by simp; omega
      have hs : ((L.map List.length).take (k + 1)).sum = ((L.map List.length).take k).sum + L[k].length := by
        rw [take_snoc (by simpa using c1)]; simp
      have hsle := sum_take_le (L.map List.length) (k + 1)
      have w2 : IntKind.i64.wrap ((k : Int) + 1) = ((k + 1 : Nat) : Int) := by rw [wrap64_id (by omega) (by omega)]; rfl
      have hwk := hw L[k] (by simp)
      have htk := ht L[k] (by simp)
      have hfl : (L.take (k + 1)).flatten = (L.take k).flatten ++ L[k] := by rw [take_snoc c1]; simp only [List.flatten_append, List.flatten_cons, List.flatten_nil, List.append_nil]
      have hlen : (((L.take k).flatten.flatMap pcs).map AV.p).length = ((L.map List.length).take k).sum := by
        have hww : ∀ x ∈ (L.take k).flatten, x.width = 1 := fun x hx => by
          obtain ⟨l, hl, hx⟩ := List.mem_flatten.1 hx
          exact hw l (List.mem_of_mem_take hl) x hx
        have := pcsl_len hww
        simp only [List.length_map, this, List.length_flatten, List.map_take, Nat.mul_one]
      have htk' : List.take ((L.map List.length).take k).sum (((L.take k).flatten.flatMap pcs).map AV.p) = ((L.take k).flatten.flatMap pcs).map AV.p := List.take_of_length_le (by omega)
      simp [c1, e1, w2]
      refine ⟨by simpa using Nat.le_of_eq hlen.symm, hwk, htk, by omega, by omega, k + 1, by omega, by omega, leN_of [(nx, nx + 1)] ?_⟩
      rw [hfl, hs, htk']
      simp
    · have e1 : decide ((k : Int) < L.length) = false := by simp; omega
      have hkL : k = L.length := by omega
      subst hkL
      have hk' : (L.map List.length).take L.length = L.map List.length := List.take_of_length_le (by simp)
      simp [c1, e1, Try.results77, hk']
      exact ⟨[], by simp⟩

set_option maxHeartbeats 1000000 in
theorem concat78 (nx : Nat) (L : List (List PC)) (hw : ∀ l ∈ L, ∀ x ∈ l, x.width = 1) (ht : ∀ l ∈ L, ∀ x ∈ l, noTup x = true) (hb : (L.map List.length).sum ≤ 1000000000000) (hb2 : L.length ≤ 1000000000000) :
    GenC Try.prog 78 [.p (.sl (L.map .sl))] ⟨[], [], nx⟩ (.view nx 0 (L.map List.length).sum 1 none) ⟨[(nx, ⟨3, 1, (L.flatten.flatMap pcs).map .p⟩)], [], nx + 1⟩ := by
  refine gen_of_aw (rs := [_]) [] [] [] mixed Try.func78 rfl (by kernel_rfl) (by kernel_rfl) (by simp [Try.ntmps78]) rfl ?_
  simp
  refine aw_loop0 (fun k : Nat => k ≤ L.length) (fun k => [(0, .p (.sl (L.map .sl))), (2, .p .nil), (9, .p (.sl (L.map .sl))), (10, .p (.int L.length)), (3, .p (.int ((L.map List.length).take k).sum)), (11, .p (.int k))]) (fun k => L.length - k) 0 (by simp) (leN_id (by simp)) ?_
  intro k hk
  by_cases c1 : k < L.length
  · have e1 : decide ((k : Int) < L.length) = true := by simp; omega
    have hs : ((L.map List.length).take (k + 1)).sum = ((L.map List.length).take k).sum + L[k].length := by
      rw [take_snoc (by simpa using c1)]; simp
    have hsle := sum_take_le (L.map List.length) (k + 1)
    have w1 : IntKind.i64.wrap ((((L.map List.length).take k).sum : Int) + (L[k].length : Int)) = (((L.map List.length).take (k + 1)).sum : Int) := by rw [hs]; push_cast; exact wrap64_id (by omega) (by omega)
    have w2 : IntKind.i64.wrap ((k : Int) + 1) = ((k + 1 : Nat) : Int) := by rw [wrap64_id (by omega) (by omega)]; rfl
    have e2 : decide ((((L.map List.length).take (k + 1)).sum : Int) < 0) = false := by simp
    simp [c1, e1, w1, w2, e2]
    refine ⟨k + 1, by omega, by omega, leN_id ?_⟩
    simp
  · have e1 : decide ((k : Int) < L.length) = false := by simp; omega
    have hk' : (L.map List.length).take k = L.map List.length := List.take_of_length_le (by simp; omega)
    simp [c1, e1, hk']
    refine gcall_of0 (grow90 nx (L.map List.length).sum (by omega)) (by simp) trivial trivial rfl ?_
    simp
    refine aw_loop (fun k : Nat => k ≤ L.length)
      (fun k => [(0, .p (.sl (L.map .sl))), (2, .p .nil), (25, .p (.sl (L.map .sl))), (26, .p (.int L.length)), (6, .view nx 0 ((L.map List.length).take k).sum 1 none), (27, .p (.int k))])
      (fun k => ⟨[(nx, ⟨3, 1, ((L.take k).flatten.flatMap pcs).map .p⟩)], [], nx + 1⟩) (fun k => L.length - k) 0 (by simp) _ (AS.le_refl _ _) (leN_id (by simp)) ?_
    clear hk c1 e1 hk' k
    intro k hk
    by_cases c1 : k < L.length
    · have e1 : decide ((k : Int) < L.length) = true := by simp; omega
      have hs : ((L.map List.length).take (k + 1)).sum = ((L.map List.length).take k).sum + L[k].length := by
        rw [take_snoc (by simpa using c1)]; simp
      have hsle := sum_take_le (L.map List.length) (k + 1)
      have w2 : IntKind.i64.wrap ((k : Int) + 1) = ((k + 1 : Nat) : Int) := by rw [wrap64_id (by omega) (by omega)]; rfl
      have hwk := hw L[k] (by simp)
      have htk := ht L[k] (by simp)
      have hfl : (L.take (k + 1)).flatten = (L.take k).flatten ++ L[k] := by rw [take_snoc c1]; simp only [List.flatten_append, List.flatten_cons, List.flatten_nil, List.append_nil]
      have hlen : (((L.take k).flatten.flatMap pcs).map AV.p).length = ((L.map List.length).take k).sum := by
        have hww : ∀ x ∈ (L.take k).flatten, x.width = 1 := fun x hx => by
          obtain ⟨l, hl, hx⟩ := List.mem_flatten.1 hx
          exact hw l (List.mem_of_mem_take hl) x hx
        have := pcsl_len hww
        simp only [List.length_map, this, List.length_flatten, List.map_take, Nat.mul_one]
      have htk' : List.take ((L.map List.length).take k).sum (((L.take k).flatten.flatMap pcs).map AV.p) = ((L.take k).flatten.flatMap pcs).map AV.p := List.take_of_length_le (by omega)
      simp [c1, e1, w2]
      refine ⟨by simpa using Nat.le_of_eq hlen.symm, hwk, htk, by omega, by omega, k + 1, by omega, by omega, leN_of [(nx, nx + 1)] ?_⟩
      rw [hfl, hs, htk']
      simp
    · have e1 : decide ((k : Int) < L.length) = false := by simp; omega
      have hkL : k = L.length := by omega
      subst hkL
      have hk' : (L.map List.length).take L.length = L.map List.length := List.take_of_length_le (by simp)
      simp [c1, e1, Try.results78, hk']
      exact ⟨[], by simp⟩

end Go.Av

/-! part W04 -/
namespace Go.Av
open Go.Proofs

theorem can_56 : CanCall Try.prog 56 := ⟨Try.f56, Try.func56, by kernel_rfl, by kernel_rfl⟩

set_option maxHeartbeats 1000000 in
theorem insert56 (nx id : Nat) (hid : id < nx) (cs : List PC) (n i : Nat) (vs : List PC) (hn : cs.length = n * 1) (hi : i ≤ n) (hw : ∀ x ∈ vs, x.width = 1) (ht : ∀ x ∈ vs, noTup x = true) (hb : n ≤ 1000000000000) (hb2 : vs.length ≤ 1000000000000) :
    GenC Try.prog 56 [.view id 0 n 1 none, .p (.int i), .p (.sl vs)] ⟨[(id, ⟨9, 1, cs.map .p⟩)], [], nx⟩
      (.view nx 0 (n + vs.length) 1 none) ⟨[(nx, ⟨9, 1, (cs.take (i * 1) ++ vs.flatMap pcs ++ cs.drop (i * 1)).map .p⟩)], [], nx + 1⟩ := by
  have hne : ¬ id = nx := by omega
  refine gen_split (pre := []) (post := [_, _]) can_56 (fun c h1 h2 h3 => ?_) ?_
  · have hwr : ∀ k : Int, 0 ≤ k → k ≤ 4000000000000 → IntKind.i64.wrap k = k := fun k h1 h2 => wrap64_id (by omega) (by omega)
    refine gen_of_aw (rs := [_]) [] [(11, [(8, .w [])]), (15, [(8, .w [])])] [] mixed Try.func56 rfl (by kernel_rfl) (by kernel_rfl) (by simp [Try.ntmps56]) rfl ?_
    have w1 : IntKind.i64.wrap ((n : Int) + (vs.length : Int)) = (n : Int) + (vs.length : Int) := hwr _ (by omega) (by omega)
    have w2 : IntKind.i64.wrap ((n : Int) + (vs.length : Int) - (i : Int)) = (n : Int) + (vs.length : Int) - (i : Int) := hwr _ (by omega) (by omega)
    have w3 : IntKind.i64.wrap ((i : Int) + (vs.length : Int)) = (i : Int) + (vs.length : Int) := hwr _ (by omega) (by omega)
    have t1 : ((n : Int) + (vs.length : Int)).toNat = n + vs.length := by omega
    have t2 : ((n : Int) + (vs.length : Int) - (i : Int)).toNat = n + vs.length - i := by omega
    have t3 : ((i : Int) + (vs.length : Int)).toNat = i + vs.length := by omega
    have hne2 : ¬ nx = id := by omega
    by_cases c0 : vs.length = 0
    · have : vs = [] := List.eq_nil_of_length_eq_zero c0
      subst this
      simp [Try.results56, hi, h1]
      exact ⟨[(nx, id)], by simp⟩
    · have e0 : (((vs.length : Nat) : Int) == 0) = false := by simpa using c0
      by_cases c1 : i = n
      · subst c1
        have hcs : List.drop i (cs.map AV.p) = [] := List.drop_of_length_le (by simp; omega)
        simp [e0, Try.results56, h1, hne, hne2, hcs]
        refine ⟨by omega, hw, ht, ?_⟩
        rcases Nat.lt_or_ge c (i + vs.length) with h | h
        · exact .inr ⟨h, by omega, by omega, [], by simp⟩
        · exact .inl ⟨h, [(nx, id)], by simp⟩
      · have e1 : ((i : Int) == (n : Int)) = false := by rw [beq_eq_false_iff_ne]; omega
        have hcl : (cs.map AV.p).length = n := by simp; omega
        have hvl : (vs.flatMap pcs).length = vs.length := by have := pcsl_len hw; omega
        have m1 : vs.length.min (n + vs.length - i) = vs.length := Nat.min_eq_left (by omega)
        have m2 : (n - i).min (i + (n + vs.length - i) - (i + vs.length)) = n - i := Nat.min_eq_left (by omega)
        have m3 : List.take vs.length vs = vs := List.take_length
        have hvl' : ((vs.flatMap pcs).map AV.p).length = vs.length := by simpa using hvl
        by_cases c2 : c < n + vs.length
        · have e2 : (decide ((c : Int) < (n : Int) + (vs.length : Int))) = true := by simp; omega
          have key := spl_grow (z := .p (.str [])) hcl hvl' hi
          generalize hA : cs.map AV.p = A at *
          simp [e0, e1, w1, e2, w2, w3, t1, t2, t3, Try.results56, hi, h1, hne, hne2, m1, m2, m3, key]
          repeat' refine And.intro ?_ ?_
          all_goals first | omega | assumption | skip
          exact ⟨[], by simp [hA]; omega⟩
        · have e2 : (decide ((c : Int) < (n : Int) + (vs.length : Int))) = false := by simp; omega
          have m4 : (n + vs.length - i).min (n + vs.length - (i + vs.length)) = n - i := by
            rw [show n + vs.length - (i + vs.length) = n - i by omega]; exact Nat.min_eq_right (by omega)
          have key := spl_room hcl hvl' hi rfl
          generalize hA : cs.map AV.p = A at *
          simp [e0, e1, w1, e2, w2, w3, t1, t2, t3, Try.results56, hi, h1, hne, hne2]
          refine ⟨by omega, by omega, by omega, by omega, ocall_of ovl_72 (.inr rfl) (ob := ⟨9, 1, A⟩) (by simp) rfl (by omega) (by simp) (by simp [isLst]) ?_⟩
          simp [e0, e1, w1, e2, w2, w3, t1, t2, t3, Try.results56, hi, h1, hne, hne2, m1, m3, m4, key]
          repeat' refine And.intro ?_ ?_
          all_goals first | omega | assumption | (rw [padTo_len]; omega) | skip
          exact ⟨[(nx, id)], by simp [hA]⟩
  · intro hn0
    have hi0 : i = 0 := by omega
    have hc0 : cs = [] := List.eq_nil_of_length_eq_zero (by omega)
    subst hi0; subst hc0; subst hn0
    by_cases c0 : vs.length = 0
    · have : vs = [] := List.eq_nil_of_length_eq_zero c0
      subst this
      refine gen_void (r := .full []) (tb' := ⟨[], [], nx⟩) (el := 9) (s := 1) ?_ trivial
      refine gen_of_aw (rs := [_]) [] [(11, [(8, .w [])]), (15, [(8, .w [])])] [] mixed Try.func56 rfl (by kernel_rfl) (by kernel_rfl) (by simp [Try.ntmps56]) rfl ?_
      simp [Try.results56]
      exact ⟨[], by simp⟩
    · have e0 : (((vs.length : Nat) : Int) == 0) = false := by simpa using c0
      refine gen_of_aw (rs := [_]) [25] [(11, [(8, .w [])]), (15, [(8, .w [])])] [] mixed Try.func56 rfl (by kernel_rfl) (by kernel_rfl) (by simp [Try.ntmps56]) rfl ?_
      simp [e0, Try.results56]
      exact ⟨hw, ht, by omega, by omega, [], by simp⟩

end Go.Av

/-! part W05 -/
namespace Go.Av
open Go.Proofs

theorem can_57 : CanCall Try.prog 57 := ⟨Try.f57, Try.func57, by kernel_rfl, by kernel_rfl⟩

set_option maxHeartbeats 1000000 in
theorem insert57 (nx id : Nat) (hid : id < nx) (cs : List PC) (n i : Nat) (vs : List PC) (hn : cs.length = n * 1) (hi : i ≤ n) (hw : ∀ x ∈ vs, x.width = 1) (ht : ∀ x ∈ vs, noTup x = true) (hb : n ≤ 1000000000000) (hb2 : vs.length ≤ 1000000000000) :
    GenC Try.prog 57 [.view id 0 n 1 none, .p (.int i), .p (.sl vs)] ⟨[(id, ⟨3, 1, cs.map .p⟩)], [], nx⟩
      (.view nx 0 (n + vs.length) 1 none) ⟨[(nx, ⟨3, 1, (cs.take (i * 1) ++ vs.flatMap pcs ++ cs.drop (i * 1)).map .p⟩)], [], nx + 1⟩ := by
  have hne : ¬ id = nx := by omega
  refine gen_split (pre := []) (post := [_, _]) can_57 (fun c h1 h2 h3 => ?_) ?_
  · have hwr : ∀ k : Int, 0 ≤ k → k ≤ 4000000000000 → IntKind.i64.wrap k = k := fun k h1 h2 => wrap64_id (by omega) (by omega)
    refine gen_of_aw (rs := [_]) [] [(11, [(8, .w [])]), (15, [(8, .w [])])] [] mixed Try.func57 rfl (by kernel_rfl) (by kernel_rfl) (by simp [Try.ntmps57]) rfl ?_
    have w1 : IntKind.i64.wrap ((n : Int) + (vs.length : Int)) = (n : Int) + (vs.length : Int) := hwr _ (by omega) (by omega)
    have w2 : IntKind.i64.wrap ((n : Int) + (vs.length : Int) - (i : Int)) = (n : Int) + (vs.length : Int) - (i : Int) := hwr _ (by omega) (by omega)
    have w3 : IntKind.i64.wrap ((i : Int) + (vs.length : Int)) = (i : Int) + (vs.length : Int) := hwr _ (by omega) (by omega)
    have t1 : ((n : Int) + (vs.length : Int)).toNat = n + vs.length := by omega
    have t2 : ((n : Int) + (vs.length : Int) - (i : Int)).toNat = n + vs.length - i := by omega
    have t3 : ((i : Int) + (vs.length : Int)).toNat = i + vs.length := by omega
    have hne2 : ¬ nx = id := by omega
    by_cases c0 : vs.length = 0
    · have : vs = [] := List.eq_nil_of_length_eq_zero c0
      subst this
      simp [Try.results57, hi, h1]
      exact ⟨[(nx, id)], by simp⟩
    · have e0 : (((vs.length : Nat) : Int) == 0) = false := by simpa using c0
      by_cases c1 : i = n
      · subst c1
        have hcs : List.drop i (cs.map AV.p) = [] := List.drop_of_length_le (by simp; omega)
        simp [e0, Try.results57, h1, hne, hne2, hcs]
        refine ⟨by omega, hw, ht, ?_⟩
        rcases Nat.lt_or_ge c (i + vs.length) with h | h
        · exact .inr ⟨h, by omega, by omega, [], by simp⟩
        · exact .inl ⟨h, [(nx, id)], by simp⟩
      · have e1 : ((i : Int) == (n : Int)) = false := by rw [beq_eq_false_iff_ne]; omega
        have hcl : (cs.map AV.p).length = n := by simp; omega
        have hvl : (vs.flatMap pcs).length = vs.length := by have := pcsl_len hw; omega
        have m1 : vs.length.min (n + vs.length - i) = vs.length := Nat.min_eq_left (by omega)
        have m2 : (n - i).min (i + (n + vs.length - i) - (i + vs.length)) = n - i := Nat.min_eq_left (by omega)
        have m3 : List.take vs.length vs = vs := List.take_length
        have hvl' : ((vs.flatMap pcs).map AV.p).length = vs.length := by simpa using hvl
        by_cases c2 : c < n + vs.length
        · have e2 : (decide ((c : Int) < (n : Int) + (vs.length : Int))) = true := by simp; omega
          have key := spl_grow (z := .p (.sc (.int .i64 0))) hcl hvl' hi
          generalize hA : cs.map AV.p = A at *
          simp [e0, e1, w1, e2, w2, w3, t1, t2, t3, Try.results57, hi, h1, hne, hne2, m1, m2, m3, key]
          repeat' refine And.intro ?_ ?_
          all_goals first | omega | assumption | skip
          exact ⟨[], by simp [hA]; omega⟩
        · have e2 : (decide ((c : Int) < (n : Int) + (vs.length : Int))) = false := by simp; omega
          have m4 : (n + vs.length - i).min (n + vs.length - (i + vs.length)) = n - i := by
            rw [show n + vs.length - (i + vs.length) = n - i by omega]; exact Nat.min_eq_right (by omega)
          have key := spl_room hcl hvl' hi rfl
          generalize hA : cs.map AV.p = A at *
          simp [e0, e1, w1, e2, w2, w3, t1, t2, t3, Try.results57, hi, h1, hne, hne2]
          refine ⟨by omega, by omega, by omega, by omega, ocall_of ovl_74 (.inr rfl) (ob := ⟨3, 1, A⟩) (by simp) rfl (by omega) (by simp) (by simp [isLst]) ?_⟩
          simp [e0, e1, w1, e2, w2, w3, t1, t2, t3, Try.results57, hi, h1, hne, hne2, m1, m3, m4, key]
          repeat' refine And.intro ?_ ?_
          all_goals first | omega | assumption | (rw [padTo_len]; omega) | skip
          exact ⟨[(nx, id)], by simp [hA]⟩
  · intro hn0
    have hi0 : i = 0 := by omega
    have hc0 : cs = [] := List.eq_nil_of_length_eq_zero (by omega)
    subst hi0; subst hc0; subst hn0
    by_cases c0 : vs.length = 0
    · have : vs = [] := List.eq_nil_of_length_eq_zero c0
      subst this
      refine gen_void (r := .full []) (tb' := ⟨[], [], nx⟩) (el := 3) (s := 1) ?_ trivial
      refine gen_of_aw (rs := [_]) [] [(11, [(8, .w [])]), (15, [(8, .w [])])] [] mixed Try.func57 rfl (by kernel_rfl) (by kernel_rfl) (by simp [Try.ntmps57]) rfl ?_
      simp [Try.results57]
      exact ⟨[], by simp⟩
    · have e0 : (((vs.length : Nat) : Int) == 0) = false := by simpa using c0
      refine gen_of_aw (rs := [_]) [25] [(11, [(8, .w [])]), (15, [(8, .w [])])] [] mixed Try.func57 rfl (by kernel_rfl) (by kernel_rfl) (by simp [Try.ntmps57]) rfl ?_
      simp [e0, Try.results57]
      exact ⟨hw, ht, by omega, by omega, [], by simp⟩

end Go.Av

/-! part W06 -/
namespace Go.Av
open Go.Proofs

theorem can_58 : CanCall Try.prog 58 := ⟨Try.f58, Try.func58, by kernel_rfl, by kernel_rfl⟩

set_option maxRecDepth 100000 in
set_option maxHeartbeats 2000000 in
theorem replace58 (nx id : Nat) (hid : id < nx) (cs : List PC) (n i j : Nat) (vs : List PC) (hn : cs.length = n * 1) (hij : i < j) (hj : j ≤ n) (hw : ∀ x ∈ vs, x.width = 1) (ht : ∀ x ∈ vs, noTup x = true) (hb : n ≤ 1000000000000) (hb2 : vs.length ≤ 1000000000000) :
    GenC Try.prog 58 [.view id 0 n 1 none, .p (.int i), .p (.int j), .p (.sl vs)] ⟨[(id, ⟨3, 1, cs.map .p⟩)], [], nx⟩
      (.view nx 0 (i + vs.length + (n - j)) 1 none) ⟨[(nx, ⟨3, 1, (cs.take (i * 1) ++ vs.flatMap pcs ++ cs.drop (j * 1)).map .p⟩)], [], nx + 1⟩ := by
  have hne : ¬ id = nx := by omega
  have hne2 : ¬ nx = id := by omega
  have hcl : (cs.map AV.p).length = n := by simp; omega
  have hvl : (vs.flatMap pcs).length = vs.length := by have := pcsl_len hw; omega
  have hvl' : ((vs.flatMap pcs).map AV.p).length = vs.length := by simpa using hvl
  have m3 : List.take vs.length vs = vs := List.take_length
  refine gen_split (pre := []) (post := [_, _, _]) can_58 (fun c h1 h2 h3 => ?_) (fun h0 => by omega)
  have hwr : ∀ k : Int, 0 ≤ k → k ≤ 4000000000000 → IntKind.i64.wrap k = k := fun k h1 h2 => wrap64_id (by omega) (by omega)
  refine gen_of_aw (rs := [_]) [] [(13, [(9, .w [])]), (18, [(9, .w [])]), (22, [(9, .w [])])] [] mixed Try.func58 rfl (by kernel_rfl) (by kernel_rfl) (by simp [Try.ntmps58]) rfl ?_
  have e0 : ((i : Int) == (j : Int)) = false := by rw [beq_eq_false_iff_ne]; omega
  generalize hA : cs.map AV.p = A at *
  have hVl : ∀ m, AV.lim.lims m ((vs.flatMap pcs).map AV.p) = true := fun m => lims_p
  have hVr : ∀ ρ, AV.ren.rens ρ ((vs.flatMap pcs).map AV.p) = (vs.flatMap pcs).map AV.p := fun ρ => rens_p
  generalize hV : (vs.flatMap pcs).map AV.p = V at *
  by_cases c1 : j = n
  · subst c1
    have hdr : List.drop j A = [] := List.drop_of_length_le (by omega)
    by_cases c2 : i + vs.length < j
    · have e2 : decide ((i : Int) + (vs.length : Int) < (j : Int)) = true := by simp; omega
      have t1 : ((i : Int) + (vs.length : Int)).toNat = i + vs.length := by omega
      simp [e0, e2, t1, Try.results58, hne, hne2, hV]
      repeat' refine And.intro ?_ ?_
      all_goals first | omega | assumption | skip
      refine .inl ?_
      repeat' refine And.intro ?_ ?_
      all_goals first | omega | assumption | (simp; omega) | skip
      refine ⟨[(nx, id)], ?_⟩
      have l1 : (List.take i A ++ V).length = i + vs.length := by simp; omega
      have e4 : ∀ R, List.take (i + vs.length) (List.take i A ++ (V ++ R)) = List.take i A ++ V := fun R => by rw [← List.append_assoc]; exact List.take_left' l1
      simp [hA, hVl, hVr, hdr, e4]
    · have e2 : decide ((i : Int) + (vs.length : Int) < (j : Int)) = false := by simp; omega
      simp [e0, e2, Try.results58, hne, hne2, hV]
      repeat' refine And.intro ?_ ?_
      all_goals first | omega | assumption | skip
      rcases Nat.lt_or_ge c (i + vs.length) with h | h
      · exact .inr ⟨h, by omega, by omega, [], by simp [hA, hVl, hVr, hdr]⟩
      · exact .inl ⟨h, [(nx, id)], by simp [hA, hVl, hVr, hdr]⟩
  · have e1 : ((j : Int) == (n : Int)) = false := by rw [beq_eq_false_iff_ne]; omega
    have w1 : IntKind.i64.wrap ((i : Int) + (vs.length : Int)) = (i : Int) + (vs.length : Int) := hwr _ (by omega) (by omega)
    have w2 : IntKind.i64.wrap ((i : Int) + (vs.length : Int) + ((n - j : Nat) : Int)) = (i : Int) + (vs.length : Int) + ((n - j : Nat) : Int) := hwr _ (by omega) (by omega)
    have w3 : IntKind.i64.wrap ((i : Int) + (vs.length : Int) + ((n - j : Nat) : Int) - (i : Int)) = (i : Int) + (vs.length : Int) + ((n - j : Nat) : Int) - (i : Int) := hwr _ (by omega) (by omega)
    have t1 : ((i : Int) + (vs.length : Int)).toNat = i + vs.length := by omega
    have t2 : ((i : Int) + (vs.length : Int) + ((n - j : Nat) : Int)).toNat = i + vs.length + (n - j) := by omega
    have t3 : ((i : Int) + (vs.length : Int) + ((n - j : Nat) : Int) - (i : Int)).toNat = vs.length + (n - j) := by omega
    rcases Nat.lt_or_ge c (i + vs.length + (n - j)) with h | h
    · have e2 : decide ((c : Int) < (i : Int) + (vs.length : Int) + ((n - j : Nat) : Int)) = true := by simp; omega
      have m1 : vs.length.min (vs.length + (n - j)) = vs.length := Nat.min_eq_left (by omega)
      have m2 : (n - j).min (i + (vs.length + (n - j)) - (i + vs.length)) = n - j := Nat.min_eq_left (by omega)
      simp [e0, e1, e2, w1, w2, w3, t1, t2, t3, Try.results58, hne, hne2, m1, m2, m3, hV]
      repeat' refine And.intro ?_ ?_
      all_goals first | omega | assumption | skip
      refine ⟨[], ?_⟩
      have key := spl_copy2 (Q := List.take i A) (V := V) (S := List.take (n - j) (List.drop j A)) (R := List.replicate (vs.length + (n - j)) (AV.p (.sc (.int .i64 0)))) (i := i) (m := vs.length) (k := n - j) (by simp; omega) hvl' (by simp; omega) (by simp)
      have e4 : List.take (n - j) (List.drop j A) = List.drop j A := List.take_of_length_le (by simp; omega)
      rw [e4] at key
      simp [hA, hVl, hVr, e4, key]
      omega
    · have e2 : decide ((c : Int) < (i : Int) + (vs.length : Int) + ((n - j : Nat) : Int)) = false := by simp; omega
      by_cases c2 : i + vs.length ≤ j
      · have e3 : decide ((i : Int) + (vs.length : Int) ≤ (j : Int)) = true := by simp; omega
        have m1 : vs.length.min (i + vs.length + (n - j) - i) = vs.length := Nat.min_eq_left (by omega)
        have m2 : (n - j).min (i + vs.length + (n - j) - (i + vs.length)) = n - j := Nat.min_eq_left (by omega)
        have p1 : padTo i A = A := padTo_le (by omega)
        have p2 : padTo (i + vs.length) (List.take i A ++ (V ++ List.drop (i + vs.length) A)) = List.take i A ++ (V ++ List.drop (i + vs.length) A) := padTo_le (by simp; omega)
        have key := fun R => spl_shrink (A := A) (V := V) hcl hvl' hj c2 rfl R
        simp [e0, e1, e2, e3, w1, w2, w3, t1, t2, t3, Try.results58, hne, hne2, m1, m2, m3, hV, p1, p2]
        repeat' refine And.intro ?_ ?_
        all_goals first | omega | assumption | skip
        refine ⟨[(nx, id)], ?_⟩
        simp [hA, hVl, hVr, key]
      · have e3 : decide ((i : Int) + (vs.length : Int) ≤ (j : Int)) = false := by simp; omega
        have m1 : vs.length.min (i + vs.length + (n - j) - i) = vs.length := Nat.min_eq_left (by omega)
        have m2 : (n - j).min (i + vs.length + (n - j) - (i + vs.length)) = n - j := Nat.min_eq_left (by omega)
        simp [e0, e1, e2, e3, w1, w2, w3, t1, t2, t3, Try.results58, hne, hne2]
        repeat' refine And.intro ?_ ?_
        all_goals first | omega | assumption | skip
        refine ocall_of ovl_74 (.inl rfl) (ob := ⟨3, 1, A⟩) (by simp) rfl (by omega) (by simp) (by simp [isLst]) ?_
        have key := spl_roomj (A := A) (V := V) (i := i) (j := j) hcl hvl' (by omega) hj (by omega) rfl
        simp [e0, e1, e2, e3, w1, w2, w3, t1, t2, t3, Try.results58, hne, hne2, m1, m2, m3, hV]
        repeat' refine And.intro ?_ ?_
        all_goals first | omega | assumption | (rw [padTo_len]; omega) | skip
        refine ⟨[(nx, id)], ?_⟩
        simp [hA, hVl, hVr, key]

end Go.Av

/-! part W07 -/
namespace Go.Av
open Go.Proofs
set_option maxRecDepth 100000


theorem nat_beq {a b : Nat} : ((a : Int) == (b : Int)) = (a == b) := by rw [Bool.eq_iff_iff]; simp; omega
theorem behind41 (l : Bool) (ks : List (List UInt8)) (vs : List Int) : PureC Try.prog 52 [nodeP l ks vs] (.int (if l then 0 else 1)) := by
  refine pure_of_aw (ys := [_]) [] [] [] mixed Try.func52 rfl (by kernel_rfl) (by kernel_rfl) (by simp [Try.ntmps52]) rfl ?_
  cases l <;> simp [Try.results52]
def fmd (l : Bool) (ks : List (List UInt8)) (vs : List Int) : Bool := vs.length == ks.length + (if l then 0 else 1)
theorem formed37 (l : Bool) (ks : List (List UInt8)) (vs : List Int) (hk : ks.length ≤ 1000000000000) : PureC Try.prog 51 [nodeP l ks vs] (.bool (fmd l ks vs)) := by
  refine pure_of_aw (ys := [_]) [] [] [] mixed Try.func51 rfl (by kernel_rfl) (by kernel_rfl) (by simp [Try.ntmps51]) rfl ?_
  simp
  refine call_of (behind41 l ks vs) ?_
  cases l
  · have w : IntKind.i64.wrap ((ks.length : Int) + 1) = ((ks.length + 1 : Nat) : Int) := wrap64_id (by omega) (by omega)
    simp [Try.results51, w, fmd, ← nat_beq]
  · have w : IntKind.i64.wrap (ks.length : Int) = (ks.length : Int) := wrap64_id (by omega) (by omega)
    simp [Try.results51, w, fmd, ← nat_beq]
theorem str_w (ks : List (List UInt8)) : ∀ x ∈ ks.map PC.str, x.width = 1 := by simp
theorem str_t (ks : List (List UInt8)) : ∀ x ∈ ks.map PC.str, noTup x = true := by simp
theorem int_w (vs : List Int) : ∀ x ∈ vs.map PC.int, x.width = 1 := by simp
theorem int_t (vs : List Int) : ∀ x ∈ vs.map PC.int, noTup x = true := by simp
@[simp] theorem pcs_strs (ks : List (List UInt8)) : (ks.map PC.str).flatMap pcs = ks.map PC.str := by induction ks <;> simp_all
@[simp] theorem pcs_ints (vs : List Int) : (vs.map PC.int).flatMap pcs = vs.map PC.int := by induction vs <;> simp_all
set_option maxHeartbeats 1000000 in
theorem copied36 (nx : Nat) (l : Bool) (ks : List (List UInt8)) (vs : List Int) (hk : ks.length ≤ 1000000000000) (hv : vs.length ≤ 1000000000000) :
    GenC Try.prog 50 [.p (nodeP l ks vs)] ⟨[], [], nx⟩ (.agg false [.p (.bool l), .view nx 0 ks.length 1 none, .view (nx + 1) 0 vs.length 1 none])
      ⟨[(nx, ⟨9, 1, (ks.map PC.str).map .p⟩), (nx + 1, ⟨3, 1, (vs.map PC.int).map .p⟩)], [], nx + 2⟩ := by
  have c1 := fun n => clone70 n (ks.map PC.str) (str_w ks) (str_t ks) (by simpa using hk)
  have c2 := fun n => clone71 n (vs.map PC.int) (int_w vs) (int_t vs) (by simpa using hv)
  simp only [List.length_map, pcs_strs, pcs_ints] at c1 c2
  refine gen_of_aw (rs := [_]) [1] [(1, [(1, .r 1), (2, .f [1]), (4, .r 1), (5, .f [1]), (7, .s 1 []), (9, .s 1 [])])] [(1, nx)] mixed Try.func50 rfl (by kernel_rfl) (by kernel_rfl) (by simp [Try.ntmps50]) rfl ?_
  simp
  refine fcall_of0 (c1 _) (by simp) trivial trivial rfl (by simp) ?_
  simp
  refine fcall_of0 (c2 _) (by simp) trivial trivial rfl (by simp) ?_
  simp [Try.results50]
  exact ⟨[(nx, nx + 2), (nx + 1, nx + 3)], by simp; intro a b h; omega⟩

@[simp] theorem fl_sc {v : Value} : PC.flat (.sc v) = true := (rfl)
theorem tkS (ks : List (List UInt8)) : List.take ks.length (ks.map (AV.p ∘ PC.str)) = ks.map (AV.p ∘ PC.str) := List.take_of_length_le (by simp)
theorem tkI (vs : List Int) : List.take vs.length (vs.map (AV.p ∘ PC.int)) = vs.map (AV.p ∘ PC.int) := List.take_of_length_le (by simp)
/-- a node whose lists are rows of its own -/
theorem bor_node {bx : List (Nat × Ob)} {l : Bool} {a b n m : Nat} {c d : Option Nat} {K : List (List UInt8)} {V : List Int} (ha : lk a bx = some ⟨9, 1, (K.map PC.str).map .p⟩) (hb : lk b bx = some ⟨3, 1, (V.map PC.int).map .p⟩) (hn : n = K.length) (hm : m = V.length) :
    borF bx 4 (.agg false [.p (.bool l), .view a 0 n 1 c, .view b 0 m 1 d]) (nodeP l K V) := by
  subst hn; subst hm
  simp [borF, all2, ha, hb, tkS, tkI]
theorem copied36p (l : Bool) (ks : List (List UInt8)) (vs : List Int) (hk : ks.length ≤ 1000000000000) (hv : vs.length ≤ 1000000000000) : PureC Try.prog 50 [nodeP l ks vs] (nodeP l ks vs) :=
  pure_of_gen (xs := [_]) (copied36 0 l ks vs hk hv) (bor_node (by simp) (by simp) rfl rfl)
/-- a node with a key more -/
def insN (l : Bool) (ks : List (List UInt8)) (vs : List Int) (i : Nat) (key : List UInt8) (us : List Int) : PC :=
  nodeP l (ks.take i ++ [key] ++ ks.drop i) (vs.take i ++ us ++ vs.drop (if l then i else i + 1))
set_option maxHeartbeats 1000000 in
theorem ninsert16 (l : Bool) (ks : List (List UInt8)) (vs : List Int) (i : Nat) (key : List UInt8) (us : List Int) (hf : fmd l ks vs = true) (hi : i ≤ ks.length) (hk : ks.length ≤ 1000000000) (hv : vs.length ≤ 1000000000) (hu : us.length ≤ 1000000000) :
    PureC Try.prog 33 [nodeP l ks vs, .int i, .str key, .sl (us.map PC.int)] (insN l ks vs i key us) := by
  have hc := fun n => copied36 n l ks vs (by omega) (by omega)
  have e1 : ¬ ks.length < i := by omega
  have hlen : vs.length = ks.length + (if l then 0 else 1) := by simpa [fmd] using hf
  have w1 : IntKind.i64.wrap ((i : Int) + 1) = ((i + 1 : Nat) : Int) := by rw [wrap64_id (by omega) (by omega)]; rfl
  cases l
  · simp at hlen
    refine pure_of_gen (xs := [_, _, _, _]) (r := .agg false [.p (.bool false), .view 0 0 (ks.length + 1) 1 none, .view 1 0 (i + us.length + (vs.length - (i + 1))) 1 none])
      (tb' := ⟨[(0, ⟨9, 1, ((ks.take i ++ [key] ++ ks.drop i).map PC.str).map .p⟩), (1, ⟨3, 1, ((vs.take i ++ us ++ vs.drop (i + 1)).map PC.int).map .p⟩)], [], 2⟩) ?_ (bor_node rfl rfl (by simp; omega) (by simp; omega))
    refine gen_of_aw (rs := [_]) [4] [] [] mixed Try.func33 rfl (by kernel_rfl) (by kernel_rfl) (by simp [Try.ntmps33]) rfl ?_
    simp
    refine gcall_of0 (hc _) (by simp) trivial trivial rfl ?_
    simp
    refine bcall_of0 (formed37 false ks vs (by omega)) (by simp [borF, all2, tkS, tkI]) rfl ?_
    simp [hf, e1]
    refine gcall_of0 (insert56 _ 2 (by omega) (ks.map PC.str) ks.length i [.str key] (by simp) hi (by simp) (by simp) (by omega) (by simp)) (by simp) (by simp [sub1]) trivial rfl ?_
    simp
    refine gcall_of0 (replace58 _ 3 (by omega) (vs.map PC.int) vs.length i (i + 1) (us.map PC.int) (by simp) (by omega) (by omega) (by simp) (by simp) (by omega) (by simp; omega)) (by simp [w1]) (by simp [sub1]) trivial rfl ?_
    simp [Try.results33]
    exact ⟨[(0, 4), (1, 5)], by simp⟩
  · simp at hlen
    refine pure_of_gen (xs := [_, _, _, _]) (r := .agg false [.p (.bool true), .view 0 0 (ks.length + 1) 1 none, .view 1 0 (vs.length + us.length) 1 none])
      (tb' := ⟨[(0, ⟨9, 1, ((ks.take i ++ [key] ++ ks.drop i).map PC.str).map .p⟩), (1, ⟨3, 1, ((vs.take i ++ us ++ vs.drop i).map PC.int).map .p⟩)], [], 2⟩) ?_ (bor_node rfl rfl (by simp; omega) (by simp; omega))
    refine gen_of_aw (rs := [_]) [4] [] [] mixed Try.func33 rfl (by kernel_rfl) (by kernel_rfl) (by simp [Try.ntmps33]) rfl ?_
    simp
    refine gcall_of0 (hc _) (by simp) trivial trivial rfl ?_
    simp
    refine bcall_of0 (formed37 true ks vs (by omega)) (by simp [borF, all2, tkS, tkI]) rfl ?_
    simp [hf, e1]
    refine gcall_of0 (insert56 _ 2 (by omega) (ks.map PC.str) ks.length i [.str key] (by simp) hi (by simp) (by simp) (by omega) (by simp)) (by simp) (by simp [sub1]) trivial rfl ?_
    simp
    refine gcall_of0 (insert57 _ 3 (by omega) (vs.map PC.int) vs.length i (us.map PC.int) (by simp) (by omega) (by simp) (by simp) (by omega) (by simp; omega)) (by simp) (by simp [sub1]) trivial rfl ?_
    simp [Try.results33]
    exact ⟨[(0, 4), (1, 5)], by simp⟩
/-- not there, or no such node -/
theorem ninsert16n (l : Bool) (ks : List (List UInt8)) (vs : List Int) (at_ : Int) (key : List UInt8) (us : List Int) (hf : fmd l ks vs = false ∨ at_ < 0 ∨ (ks.length : Int) < at_) (hk : ks.length ≤ 1000000000) (hv : vs.length ≤ 1000000000) :
    PureC Try.prog 33 [nodeP l ks vs, .int at_, .str key, .sl (us.map PC.int)] (nodeP l ks vs) := by
  have hc := fun n => copied36 n l ks vs (by omega) (by omega)
  refine pure_of_gen (xs := [_, _, _, _]) (r := .agg false [.p (.bool l), .view 0 0 ks.length 1 none, .view 1 0 vs.length 1 none])
    (tb' := ⟨[(0, ⟨9, 1, (ks.map PC.str).map .p⟩), (1, ⟨3, 1, (vs.map PC.int).map .p⟩)], [], 2⟩) ?_ (bor_node rfl rfl rfl rfl)
  refine gen_of_aw (rs := [_]) [4] [] [] mixed Try.func33 rfl (by kernel_rfl) (by kernel_rfl) (by simp [Try.ntmps33]) rfl ?_
  simp
  refine gcall_of0 (hc _) (by simp) trivial trivial rfl ?_
  simp
  refine bcall_of0 (formed37 l ks vs (by omega)) (by simp [borF, all2, tkS, tkI]) rfl ?_
  by_cases f0 : fmd l ks vs = false
  · simp [f0, Try.results33]
    exact ⟨[(0, 2), (1, 3)], by simp⟩
  · have f0' : fmd l ks vs = true := by simpa using f0
    by_cases f1 : at_ < 0
    · simp [f0', f1, Try.results33]
      exact ⟨[(0, 2), (1, 3)], by simp⟩
    · have f2 : (ks.length : Int) < at_ := by
        rcases hf with h | h | h
        · exact absurd h f0
        · exact absurd h f1
        · exact h
      simp [f0', f1, f2, Try.results33]
      exact ⟨[(0, 2), (1, 3)], by simp⟩
end Go.Av

/-! part W08 -/
namespace Go.Av
open Go.Proofs
set_option maxRecDepth 100000


/-- where the first is that q takes, or -1 -/
def idxF (q : List UInt8 → Bool) (ks : List (List UInt8)) : Int := if below (fun s => !q s) ks < ks.length then (below (fun s => !q s) ks : Nat) else -1
theorem index55 {g : FuncId} {caps : List PC} (q : List UInt8 → Bool) (ks : List (List UInt8)) (hk : ks.length ≤ 9223372036854775807) (h : ∀ s ∈ ks, PureC Try.prog g (.str s :: caps) (.bool (q s))) :
    PureC Try.prog 68 [.sl (ks.map PC.str), .fn (.func g) caps] (.int (idxF q ks)) := by
  refine pure_of_aw (ys := [_]) [] [] [] mixed Try.func68 rfl (by kernel_rfl) (by kernel_rfl) (by simp [Try.ntmps68]) rfl ?_
  simp
  refine aw_loop0 (fun k : Nat => k ≤ ks.length ∧ ∀ x ∈ ks.take k, (!q x) = true) (fun k => [(0, .p (.sl (ks.map PC.str))), (1, .p (.fn (.func g) caps)), (7, .p (.int ks.length)), (8, .p (.int k))]) (fun k => ks.length - k) 0 (by simp) (leN_id (by simp)) ?_
  rintro k ⟨h1, h2⟩
  by_cases c1 : k < ks.length
  · simp [c1]
    refine pcall_of (h ks[k] (by simp)) (by simp) ?_
    by_cases c2 : q ks[k] = true
    · have e := below_of h2 h1 (fun _ => by simpa using c2)
      simp [c2, idxF, e, c1, Try.results68]
    · simp [c2]
      refine ⟨k + 1, ⟨by omega, ?_⟩, by omega, leN_id ?_⟩
      · rw [List.take_succ_eq_append_getElem c1]; simp only [List.mem_append, List.mem_singleton]; rintro x (hx | rfl); (have := h2 x hx; simpa using this); simpa using c2
      · simp [wrap64_id (n := (k : Int) + 1) (by omega) (by omega)]
  · have e := below_of h2 h1 (fun h => absurd h c1)
    simp [e, c1, idxF, Try.results68]
theorem less_tri : ∀ (a b : List UInt8), Op.bytesLess b a = (!Op.bytesLess a b && !a == b)
  | [], [] => rfl
  | [], _ :: _ => rfl
  | _ :: _, [] => rfl
  | x :: a, y :: b => by
    have ih := less_tri a b
    rcases Nat.lt_trichotomy x.toNat y.toNat with h | h | h
    · have h1 : x < y := h
      have h2 : ¬ y < x := fun k => by have : y.toNat < x.toNat := k; omega
      have h3 : (y == x) = false := by simp; intro e; subst e; omega
      simp [Op.bytesLess, h1, h2, h3]
    · have h1 : x = y := UInt8.toNat_inj.mp h
      subst h1
      have h2 : ¬ x < x := fun k => by have : x.toNat < x.toNat := k; omega
      simp [Op.bytesLess, h2, ih]
    · have h1 : y < x := h
      have h2 : ¬ x < y := fun k => by have : x.toNat < y.toNat := k; omega
      have h3 : (x == y) = false := by simp; intro e; subst e; omega
      have h4 : x ≠ y := by intro e; subst e; omega
      simp [Op.bytesLess, h1, h2, h3, h4]
theorem find34 (s key : List UInt8) : PureC Try.prog 49 [.str s, .ref (.str key)] (.bool (Op.bytesLess s key)) := by
  refine pure_of_aw (ys := [_]) [] [] [] mixed Try.func49 rfl (by kernel_rfl) (by kernel_rfl) (by simp [Try.ntmps49]) rfl ?_
  simp [Try.results49]
theorem child35 (s key : List UInt8) : PureC Try.prog 67 [.str s, .ref (.str key)] (.bool (!Op.bytesLess key s)) := by
  refine pure_of_aw (ys := [_]) [] [] [] mixed Try.func67 rfl (by kernel_rfl) (by kernel_rfl) (by simp [Try.ntmps67]) rfl ?_
  simp [Try.results67, less_tri s key]
theorem below56 {g : FuncId} {caps : List PC} {s : List UInt8} {b : Bool} (h : PureC Try.prog g (.str s :: caps) (.bool b)) : PureC Try.prog 69 [.str s, .ref (.fn (.func g) caps)] (.bool (!b)) := by
  refine pure_of_aw (ys := [_]) [] [] [] mixed Try.func69 rfl (by kernel_rfl) (by kernel_rfl) (by simp [Try.ntmps69]) rfl ?_
  simp
  refine pcall_of h (by simp) ?_
  simp [Try.results69]
theorem below33 {g : FuncId} {caps : List PC} (p : List UInt8 → Bool) (l : Bool) (ks : List (List UInt8)) (vs : List Int) (hk : ks.length ≤ 9223372036854775807) (h : ∀ s ∈ ks, PureC Try.prog g (.str s :: caps) (.bool (p s))) :
    PureC Try.prog 48 [nodeP l ks vs, .fn (.func g) caps] (.int (below p ks)) := by
  refine pure_of_aw (ys := [_]) [] [] [] mixed Try.func48 rfl (by kernel_rfl) (by kernel_rfl) (by simp [Try.ntmps48]) rfl ?_
  simp
  refine pcall_of (index55 (fun s => !p s) ks hk fun s hs => below56 (h s hs)) (by simp) ?_
  have hb := below_le p ks
  by_cases c : below p ks < ks.length
  · simp [idxF, c, Try.results48]
  · have e : below p ks = ks.length := by omega
    simp [idxF, e, Try.results48]
/-- what Find answers -/
abbrev findR (ks : List (List UInt8)) (key : List UInt8) : PC := .tp [.int (below (fun s => Op.bytesLess s key) ks), .bool (ks[below (fun s => Op.bytesLess s key) ks]? == some key)]
set_option maxRecDepth 100000 in
theorem find11 (l : Bool) (ks : List (List UInt8)) (vs : List Int) (key : List UInt8) (hk : ks.length ≤ 9223372036854775807) :
    PureC Try.prog 30 [nodeP l ks vs, .str key] (findR ks key) := by
  refine pure_of_aw (ys := [_, _]) [] [] [] mixed Try.func30 rfl (by kernel_rfl) (by kernel_rfl) (by simp [Try.ntmps30]) rfl ?_
  simp
  refine pcall_of (below33 (fun s => Op.bytesLess s key) l ks vs hk fun s _ => find34 s key) (by simp) ?_
  have hb := below_le (fun s => Op.bytesLess s key) ks
  by_cases c : below (fun s => Op.bytesLess s key) ks < ks.length
  · simp [c, Try.results30]
  · have e : below (fun s => Op.bytesLess s key) ks = ks.length := by omega
    simp [e, Try.results30]
theorem child13 (l : Bool) (ks : List (List UInt8)) (vs : List Int) (key : List UInt8) (hk : ks.length ≤ 9223372036854775807) :
    PureC Try.prog 47 [nodeP l ks vs, .str key] (.int (below (fun s => !Op.bytesLess key s) ks)) := by
  refine pure_of_aw (ys := [_]) [] [] [] mixed Try.func47 rfl (by kernel_rfl) (by kernel_rfl) (by simp [Try.ntmps47]) rfl ?_
  simp
  refine pcall_of (below33 (fun s => !Op.bytesLess key s) l ks vs hk fun s _ => child35 s key) (by simp) ?_
  simp [Try.results47]
end Go.Av

/-! part W09 -/
namespace Go.Av
open Go.Proofs
set_option maxRecDepth 100000


/-- the half of a node -/
def splitR (l : Bool) (ks : List (List UInt8)) (vs : List Int) : PC :=
  if fmd l ks vs && decide (2 ≤ ks.length) then
    .tp [nodeP l (ks.take (ks.length / 2)) (vs.take (ks.length / 2 + if l then 0 else 1)), .str (ks.getD (ks.length / 2) []),
      nodeP l (ks.drop (ks.length / 2 + if l then 0 else 1)) (vs.drop (ks.length / 2 + if l then 0 else 1))]
  else .tp [nodeP l ks vs, .str [], nodeP l [] []]
set_option maxHeartbeats 1000000 in
theorem split23 (l : Bool) (ks : List (List UInt8)) (vs : List Int) (hk : ks.length ≤ 1000000000) (hv : vs.length ≤ 1000000000) :
    PureC Try.prog 55 [nodeP l ks vs] (splitR l ks vs) := by
  have hc := fun l ks vs a b => copied36p l ks vs a b
  by_cases f0 : fmd l ks vs = true
  · by_cases f1 : 2 ≤ ks.length
    · have hlen : vs.length = ks.length + (if l then 0 else 1) := by simpa [fmd] using f0
      have e1 : ¬ (ks.length : Int) < 2 := by omega
      obtain ⟨h, hh⟩ : ∃ h, h = ks.length / 2 := ⟨_, rfl⟩
      have b1 : h < ks.length := by omega
      have b2 : (h : Int) ≤ ks.length := by omega
      have b3 : h ≤ ks.length := by omega
      have w0 : IntKind.i64.wrap ((ks.length : Int) / 2) = (h : Int) := by
        rw [wrap64_id (by omega) (by omega)]; omega
      simp only [splitR, f0, f1, decide_true, Bool.and_true, if_true, ← hh]
      refine pure_of_aw (ys := [_, _, _]) [] [(2, [(5, .s 1 []), (7, .s 2 [])]), (4, [(15, .w []), (16, .w [])]), (5, [(18, .w []), (19, .w [])]), (6, [(0, .r 3), (6, .r 4), (7, .s 1 [3,4]), (9, .s 2 [3,4])])] [(1, 0), (2, 1), (3, 2), (4, 3)] mixed Try.func55 rfl (by kernel_rfl) (by kernel_rfl) (by simp [Try.ntmps55]) rfl ?_
      simp
      refine pcall_of (formed37 l ks vs (by omega)) (by simp) ?_
      cases l
      · simp at hlen
        have w1 : IntKind.i64.wrap ((h : Int) + 1) = ((h + 1 : Nat) : Int) := by rw [wrap64_id (by omega) (by omega)]; rfl
        have b4 : (h : Int) + 1 ≤ vs.length := by omega
        have b5 : h + 1 ≤ vs.length := by omega
        have b6 : h + 1 ≤ ks.length := by omega
        have b7 : (h : Int) + 1 ≤ ks.length := by omega
        have b8 : (0 : Int) ≤ (h : Int) + 1 := by omega
        simp [f0, e1, w0, b2, b3]
        have c1 := hc false (ks.take h) (vs.take (h + 1)) (by simp; omega) (by simp; omega)
        have c2 := hc false (ks.drop (h + 1)) (vs.drop (h + 1)) (by simp; omega) (by simp; omega)
        simp only [nodeP, List.map_take, List.map_drop] at c1; simp only [nodeP, List.map_take, List.map_drop] at c2
        refine call_of (behind41 false ks vs) ?_
        simp [w1, b4, b5, b6, ↓b7, ↓b8]
        refine call_of c1 ?_
        simp
        refine call_of (behind41 false ks vs) ?_
        simp [w1, b4, b5, b6, ↓b7, ↓b8]
        refine call_of (behind41 false ks vs) ?_
        simp [w1, b4, b5, b6, ↓b7, ↓b8]
        refine call_of c2 ?_
        simp [b1, Try.results55]
      · simp at hlen
        have w1 : IntKind.i64.wrap (h : Int) = (h : Int) := wrap64_id (by omega) (by omega)
        have b4 : (h : Int) ≤ vs.length := by omega
        have b5 : h ≤ vs.length := by omega
        have b6 : h ≤ ks.length := by omega
        have b7 : (h : Int) ≤ ks.length := by omega
        simp [f0, e1, w0, b2, b3]
        have c1 := hc true (ks.take h) (vs.take (h)) (by simp; omega) (by simp; omega)
        have c2 := hc true (ks.drop (h)) (vs.drop (h)) (by simp; omega) (by simp; omega)
        simp only [nodeP, List.map_take, List.map_drop] at c1; simp only [nodeP, List.map_take, List.map_drop] at c2
        refine call_of (behind41 true ks vs) ?_
        simp [w1, b4, b5, b6, ↓b7]
        refine call_of c1 ?_
        simp
        refine call_of (behind41 true ks vs) ?_
        simp [w1, b4, b5, b6, ↓b7]
        refine call_of (behind41 true ks vs) ?_
        simp [w1, b4, b5, b6, ↓b7]
        refine call_of c2 ?_
        simp [b1, Try.results55]
    · have e1 : (ks.length : Int) < 2 := by omega
      simp only [splitR, f0, f1, decide_false, Bool.and_false]
      have c := hc l ks vs (by omega) (by omega)
      refine pure_of_aw (ys := [_, _, _]) [] [(2, [(5, .s 1 []), (7, .s 2 [])]), (4, [(15, .w []), (16, .w [])]), (5, [(18, .w []), (19, .w [])]), (6, [(0, .r 3), (6, .r 4), (7, .s 1 [3,4]), (9, .s 2 [3,4])])] [(1, 0), (2, 1), (3, 2), (4, 3)] mixed Try.func55 rfl (by kernel_rfl) (by kernel_rfl) (by simp [Try.ntmps55]) rfl ?_
      simp
      refine pcall_of (formed37 l ks vs (by omega)) (by simp) ?_
      simp [f0, e1]
      refine call_of c ?_
      simp [Try.results55]
      trace_state
  · have e1 : True := trivial
    have f0 : fmd l ks vs = false := by simpa using f0
    simp only [splitR, f0, Bool.false_and]
    have c := hc l ks vs (by omega) (by omega)
    refine pure_of_aw (ys := [_, _, _]) [] [(2, [(5, .s 1 []), (7, .s 2 [])]), (4, [(15, .w []), (16, .w [])]), (5, [(18, .w []), (19, .w [])]), (6, [(0, .r 3), (6, .r 4), (7, .s 1 [3,4]), (9, .s 2 [3,4])])] [(1, 0), (2, 1), (3, 2), (4, 3)] mixed Try.func55 rfl (by kernel_rfl) (by kernel_rfl) (by simp [Try.ntmps55]) rfl ?_
    simp
    refine pcall_of (formed37 l ks vs (by omega)) (by simp) ?_
    simp [f0, e1]
    refine call_of c ?_
    simp [Try.results55]
    trace_state

theorem formed25 (l : Bool) (ks : List (List UInt8)) (vs : List Int) (hk : ks.length ≤ 1000000000000) : PureC Try.prog 63 [nodeP l ks vs] (.bool (fmd l ks vs)) := by
  refine pure_of_aw (ys := [_]) [] [] [] mixed Try.func63 rfl (by kernel_rfl) (by kernel_rfl) (by simp [Try.ntmps63]) rfl ?_
  cases l
  · have w : IntKind.i64.wrap ((ks.length : Int) + 1) = ((ks.length + 1 : Nat) : Int) := wrap64_id (by omega) (by omega)
    simp [Try.results63, w, fmd, ← nat_beq]
  · simp [Try.results63, fmd, ← nat_beq]

theorem wS {ks : List (List UInt8)} {x : PC} (h : x ∈ ks.map PC.str) : x.width = 1 := by obtain ⟨z, _, rfl⟩ := List.mem_map.1 h; rfl
theorem wI {vs : List Int} {x : PC} (h : x ∈ vs.map PC.int) : x.width = 1 := by obtain ⟨z, _, rfl⟩ := List.mem_map.1 h; rfl
theorem wTS {ks : List (List UInt8)} {i : Nat} : ∀ x ∈ List.take i (ks.map PC.str), x.width = 1 := fun _ h => wS (List.mem_of_mem_take h)
theorem wDS {ks : List (List UInt8)} {i : Nat} : ∀ x ∈ List.drop i (ks.map PC.str), x.width = 1 := fun _ h => wS (List.mem_of_mem_drop h)
theorem wTI {vs : List Int} {i : Nat} : ∀ x ∈ List.take i (vs.map PC.int), x.width = 1 := fun _ h => wI (List.mem_of_mem_take h)
theorem wDI {vs : List Int} {i : Nat} : ∀ x ∈ List.drop i (vs.map PC.int), x.width = 1 := fun _ h => wI (List.mem_of_mem_drop h)
theorem wTSk {ks : List (List UInt8)} {i : Nat} {key : List UInt8} : ∀ x, x ∈ List.take i (ks.map PC.str) ∨ x = PC.str key → x.width = 1 := by
  rintro x (h | rfl); exact wTS x h; rfl
theorem wTIu {vs us : List Int} {i : Nat} : ∀ x, (x ∈ List.take i (vs.map PC.int) ∨ ∃ a, a ∈ us ∧ PC.int a = x) → x.width = 1 := by
  rintro x (h | ⟨a, _, rfl⟩); exact wTI x h; rfl
set_option maxHeartbeats 1000000 in
theorem nremove17 (l : Bool) (ks : List (List UInt8)) (vs : List Int) (i : Nat) (hf : fmd l ks vs = true) (hi : i < ks.length) (hk : ks.length ≤ 1000000000) (hv : vs.length ≤ 1000000000) :
    PureC Try.prog 31 [nodeP l ks vs, .int i] (nodeP l (ks.take i ++ ks.drop (i + 1)) (vs.take (i + (if l then 0 else 1)) ++ vs.drop (i + (if l then 0 else 1) + 1))) := by
  have hc := fun n => copied36 n l ks vs (by omega) (by omega)
  have e1 : ¬ ks.length ≤ i := by omega
  have hlen : vs.length = ks.length + (if l then 0 else 1) := by simpa [fmd] using hf
  obtain ⟨b, hb⟩ : ∃ b : Nat, b = if l then 0 else 1 := ⟨_, rfl⟩
  have hb2 : b ≤ 1 := by rw [hb]; split <;> omega
  have hbi : (if l = true then (0 : Int) else 1) = (b : Int) := by rw [hb]; split <;> rfl
  rw [← hb] at hlen ⊢
  have w1 : IntKind.i64.wrap ((i : Int) + 1) = ((i + 1 : Nat) : Int) := by rw [wrap64_id (by omega) (by omega)]; rfl
  have w2 : IntKind.i64.wrap ((i : Int) + (b : Int)) = ((i + b : Nat) : Int) := by rw [wrap64_id (by omega) (by omega)]; rfl
  have w3 : IntKind.i64.wrap (((i + b : Nat) : Int) + 1) = ((i + b + 1 : Nat) : Int) := by rw [wrap64_id (by omega) (by omega)]; rfl
  refine pure_of_gen (xs := [_, _]) (r := .agg false [.p (.bool l), .view 0 0 (ks.length - 1) 1 none, .view 1 0 (vs.length - 1) 1 none])
    (tb' := ⟨[(0, ⟨9, 1, ((ks.take i ++ ks.drop (i + 1)).map PC.str).map .p⟩), (1, ⟨3, 1, ((vs.take (i + b) ++ vs.drop (i + b + 1)).map PC.int).map .p⟩)], [], 2⟩) ?_ (bor_node rfl rfl (by simp; omega) (by simp; omega))
  refine gen_of_aw (rs := [_]) [2] [(5, [(1, .r 1), (5, .f [1]), (7, .r 1), (11, .f [1]), (13, .s 1 []), (15, .s 1 [])])] [(1, 0)] mixed Try.func31 rfl (by kernel_rfl) (by kernel_rfl) (by simp [Try.ntmps31]) rfl ?_
  simp
  refine gcall_of0 (hc _) (by simp) trivial trivial rfl ?_
  simp
  refine bcall_of0 (formed37 l ks vs (by omega)) (by simp [borF, all2, tkS, tkI]) rfl ?_
  simp [hf, e1]
  refine bcall_of0 (behind41 l ks vs) (by simp [borF, all2, tkS, tkI]) rfl ?_
  simp [hbi, w2]
  refine fcall_of0 (delete53 _ 2 (by omega) (ks.map PC.str) ks.length i (i + 1) (by simp) (by omega) (by omega) (by omega)) (by simp [w1]) (by simp [sub1]) trivial rfl (by simp) ?_
  simp
  refine fcall_of0 (delete54 _ 3 (by omega) (vs.map PC.int) vs.length (i + b) (i + b + 1) (by simp) (by omega) (by omega) (by omega)) (by simp; exact w3.symm) (by simp [sub1]) trivial rfl (by simp) ?_
  simp [Try.results31]
  exact ⟨[(0, 4), (1, 5)], by simp⟩
theorem nremove17n (l : Bool) (ks : List (List UInt8)) (vs : List Int) (at_ : Int) (hf : fmd l ks vs = false ∨ at_ < 0 ∨ (ks.length : Int) ≤ at_) (hk : ks.length ≤ 1000000000) (hv : vs.length ≤ 1000000000) :
    PureC Try.prog 31 [nodeP l ks vs, .int at_] (nodeP l ks vs) := by
  have hc := fun n => copied36 n l ks vs (by omega) (by omega)
  refine pure_of_gen (xs := [_, _]) (r := .agg false [.p (.bool l), .view 0 0 ks.length 1 none, .view 1 0 vs.length 1 none])
    (tb' := ⟨[(0, ⟨9, 1, (ks.map PC.str).map .p⟩), (1, ⟨3, 1, (vs.map PC.int).map .p⟩)], [], 2⟩) ?_ (bor_node rfl rfl rfl rfl)
  refine gen_of_aw (rs := [_]) [2] [(5, [(1, .r 1), (5, .f [1]), (7, .r 1), (11, .f [1]), (13, .s 1 []), (15, .s 1 [])])] [(1, 0)] mixed Try.func31 rfl (by kernel_rfl) (by kernel_rfl) (by simp [Try.ntmps31]) rfl ?_
  simp
  refine gcall_of0 (hc _) (by simp) trivial trivial rfl ?_
  simp
  refine bcall_of0 (formed37 l ks vs (by omega)) (by simp [borF, all2, tkS, tkI]) rfl ?_
  by_cases f0 : fmd l ks vs = false
  · simp [f0, Try.results31]
    exact ⟨[(0, 2), (1, 3)], by simp⟩
  · have f0' : fmd l ks vs = true := by simpa using f0
    by_cases f1 : at_ < 0
    · simp [f0', f1, Try.results31]
      exact ⟨[(0, 2), (1, 3)], by simp⟩
    · have f2 : (ks.length : Int) ≤ at_ := by
        rcases hf with h | h | h
        · exact absurd h f0
        · exact absurd h f1
        · exact h
      simp [f0', f1, f2, Try.results31]
      exact ⟨[(0, 2), (1, 3)], by simp⟩
def insOk (l : Bool) (ks : List (List UInt8)) (vs : List Int) (a : Int) : Bool := fmd l ks vs && decide (0 ≤ a) && decide (a ≤ ks.length)
def insKs (l : Bool) (ks : List (List UInt8)) (vs : List Int) (a : Int) (key : List UInt8) : List (List UInt8) := if insOk l ks vs a then ks.take a.toNat ++ [key] ++ ks.drop a.toNat else ks
def insVs (l : Bool) (ks : List (List UInt8)) (vs : List Int) (a : Int) (us : List Int) : List Int := if insOk l ks vs a then vs.take a.toNat ++ us ++ vs.drop (if l then a.toNat else a.toNat + 1) else vs
def remOk (l : Bool) (ks : List (List UInt8)) (vs : List Int) (a : Int) : Bool := fmd l ks vs && decide (0 ≤ a) && decide (a < ks.length)
def remKs (l : Bool) (ks : List (List UInt8)) (vs : List Int) (a : Int) : List (List UInt8) := if remOk l ks vs a then ks.take a.toNat ++ ks.drop (a.toNat + 1) else ks
def remVs (l : Bool) (ks : List (List UInt8)) (vs : List Int) (a : Int) : List Int := if remOk l ks vs a then vs.take (a.toNat + (if l then 0 else 1)) ++ vs.drop (a.toNat + (if l then 0 else 1) + 1) else vs
theorem insOk_no {l : Bool} {ks : List (List UInt8)} {vs : List Int} {a : Int} (h : insOk l ks vs a = false) : fmd l ks vs = false ∨ a < 0 ∨ (ks.length : Int) < a := by
  simp only [insOk, Bool.and_eq_false_iff, decide_eq_false_iff_not] at h; rcases h with (h | h) | h
  · exact .inl h
  · exact .inr (.inl (by omega))
  · exact .inr (.inr (by omega))
theorem remOk_no {l : Bool} {ks : List (List UInt8)} {vs : List Int} {a : Int} (h : remOk l ks vs a = false) : fmd l ks vs = false ∨ a < 0 ∨ (ks.length : Int) ≤ a := by
  simp only [remOk, Bool.and_eq_false_iff, decide_eq_false_iff_not] at h; rcases h with (h | h) | h
  · exact .inl h
  · exact .inr (.inl (by omega))
  · exact .inr (.inr (by omega))
theorem insOk_yes {l : Bool} {ks : List (List UInt8)} {vs : List Int} {a : Int} (h : insOk l ks vs a = true) : fmd l ks vs = true ∧ ∃ i : Nat, a = i ∧ i ≤ ks.length := by
  simp only [insOk, Bool.and_eq_true, decide_eq_true_eq] at h; exact ⟨h.1.1, a.toNat, by omega, by omega⟩
theorem remOk_yes {l : Bool} {ks : List (List UInt8)} {vs : List Int} {a : Int} (h : remOk l ks vs a = true) : fmd l ks vs = true ∧ ∃ i : Nat, a = i ∧ i < ks.length := by
  simp only [remOk, Bool.and_eq_true, decide_eq_true_eq] at h; exact ⟨h.1.1, a.toNat, by omega, by omega⟩
theorem insert16 (l : Bool) (ks : List (List UInt8)) (vs : List Int) (a : Int) (key : List UInt8) (us : List Int) (hk : ks.length ≤ 1000000000) (hv : vs.length ≤ 1000000000) (hu : us.length ≤ 1000000000) :
    PureC Try.prog 33 [nodeP l ks vs, .int a, .str key, .sl (us.map PC.int)] (nodeP l (insKs l ks vs a key) (insVs l ks vs a us)) := by
  cases h : insOk l ks vs a with
  | false => simpa [insKs, insVs, h] using ninsert16n l ks vs a key us (insOk_no h) hk hv
  | true => obtain ⟨hf, i, rfl, hi⟩ := insOk_yes h; simpa [insKs, insVs, h, insN] using ninsert16 l ks vs i key us hf hi hk hv hu
theorem remove17 (l : Bool) (ks : List (List UInt8)) (vs : List Int) (a : Int) (hk : ks.length ≤ 1000000000) (hv : vs.length ≤ 1000000000) :
    PureC Try.prog 31 [nodeP l ks vs, .int a] (nodeP l (remKs l ks vs a) (remVs l ks vs a)) := by
  cases h : remOk l ks vs a with
  | false => simpa [remKs, remVs, h] using nremove17n l ks vs a (remOk_no h) hk hv
  | true => obtain ⟨hf, i, rfl, hi⟩ := remOk_yes h; simpa [remKs, remVs, h] using nremove17 l ks vs i hf hi hk hv
theorem insKs_le {l : Bool} {ks : List (List UInt8)} {vs : List Int} {a : Int} {key : List UInt8} : (insKs l ks vs a key).length ≤ ks.length + 1 := by
  unfold insKs; split
  · simp; omega
  · omega
theorem insVs_le {l : Bool} {ks : List (List UInt8)} {vs us : List Int} {a : Int} : (insVs l ks vs a us).length ≤ vs.length + us.length := by
  unfold insVs; split
  · rename_i h; obtain ⟨hf, i, rfl, hi⟩ := insOk_yes h; simp; split <;> omega
  · omega
theorem remKs_le {l : Bool} {ks : List (List UInt8)} {vs : List Int} {a : Int} : (remKs l ks vs a).length ≤ ks.length := by
  unfold remKs; split
  · simp; omega
  · omega
theorem remVs_le {l : Bool} {ks : List (List UInt8)} {vs : List Int} {a : Int} : (remVs l ks vs a).length ≤ vs.length := by
  unfold remVs; split
  · simp; omega
  · omega
end Go.Av

/-! part W10 -/
namespace Go.Av
open Go.Proofs
set_option maxRecDepth 100000


def kB (ks : List (List UInt8)) (j : Nat) : Bool := decide (1 ≤ (ks.getD j []).length) && decide ((ks.getD j []).length ≤ 100) && (j == 0 || Op.bytesLess (ks.getD (j - 1) []) (ks.getD j []))
def vB (v : Int) : Bool := decide (0 ≤ v) && decide (v < 1099511627776)
def rightB (l : Bool) (ks : List (List UInt8)) (vs : List Int) : Bool :=
  decide (ks.length ≤ 4) && fmd l ks vs && (l || decide (0 < ks.length)) && ((List.range ks.length).all (kB ks)) && vs.all vB
theorem right_k {l : Bool} {ks : List (List UInt8)} {vs : List Int} {k : Nat} (hk : k < ks.length) (h : kB ks k = false) : rightB l ks vs = false := by
  have : (List.range ks.length).all (kB ks) = false := by rw [List.all_eq_false]; exact ⟨k, by simpa using hk, by simp [h]⟩
  simp [rightB, this]
theorem right_v {l : Bool} {ks : List (List UInt8)} {vs : List Int} {k : Nat} (hk : k < vs.length) (h : vB vs[k] = false) : rightB l ks vs = false := by
  have : vs.all vB = false := by rw [List.all_eq_false]; exact ⟨vs[k], by simp, by simp [h]⟩
  simp [rightB, this]
set_option maxHeartbeats 1000000 in
theorem right21 (l : Bool) (ks : List (List UInt8)) (vs : List Int) (hv : vs.length ≤ 9223372036854775807) (hs : ∀ s ∈ ks, s.length ≤ 9223372036854775807) : PureC Try.prog 42 [nodeP l ks vs] (.bool (rightB l ks vs)) := by
  refine pure_of_aw (ys := [_]) [] [] [] mixed Try.func42 rfl (by kernel_rfl) (by kernel_rfl) (by simp [Try.ntmps42]) rfl ?_
  simp
  by_cases h1 : 4 < (ks.length : Int)
  · have : ¬ ks.length ≤ 4 := by omega
    simp [h1, rightB, this, Try.results42]
  · have k1 : ks.length ≤ 4 := by omega
    simp [h1]
    refine pcall_of (formed25 l ks vs (by omega)) (by simp) ?_
    cases h2 : fmd l ks vs with
    | false => simp [rightB, h2, Try.results42]
    | true =>
      simp
      cases l
      · simp
        by_cases h3 : ks.length = 0
        · simp [h3, Try.results42, rightB]
        have h4 : ((ks.length : Int) == 0) = false := by simp; intro e; subst e; simp at h3
        simp [h4]
        refine aw_loop0 (fun k : Nat => k ≤ ks.length ∧ ∀ j, j < k → kB ks j = true) (fun k => [(1, .p (.ref (nodeP false ks vs))), (3, .p (.int k))]) (fun k => ks.length - k) 0 (by simp) (leN_id (by simp)) ?_
        rintro k ⟨j1, j2⟩
        by_cases c1 : k < ks.length
        · have hl := hs ks[k] (by simp)
          simp [c1]
          by_cases b1 : (ks[k].length : Int) < 1
          · have r := right_k (l := false) (vs := vs) c1 (by simp [kB, c1]; omega)
            simp [b1, r, Try.results42]
          · simp [b1, c1]
            by_cases b2 : 100 < (ks[k].length : Int)
            · have r := right_k (l := false) (vs := vs) c1 (by simp [kB, c1]; omega)
              simp [b2, r, Try.results42]
            · simp [b2]
              cases k with
              | zero =>
                simp
                refine ⟨1, ⟨by omega, ?_⟩, by omega, leN_id ?_⟩
                · intro j hj; obtain rfl : j = 0 := by omega
                  simp [kB, c1]; omega
                · simp [wrap64_id]
              | succ m =>
                have hm : m < ks.length := by omega
                have w1 : IntKind.i64.wrap (m : Int) = (m : Int) := wrap64_id (by omega) (by omega)
                have hl' := hs ks[m] (by simp)
                have p1 : (0 : Int) < (m : Int) + 1 := by omega
                have p2 : (0 : Int) ≤ (m : Int) + 1 := by omega
                simp [w1, hm, c1, ↓p1, p2]
                refine call_of (less_p _ _ hl' hl) ?_
                by_cases c2 : Op.bytesLess ks[m] ks[m + 1] = true
                · simp [c2]
                  refine ⟨m + 2, ⟨by omega, ?_⟩, by omega, leN_id ?_⟩
                  · intro j hj
                    by_cases hj' : j < m + 1
                    · exact j2 j hj'
                    · obtain rfl : j = m + 1 := by omega
                      simp [kB, c1, hm, c2]; omega
                  · simp [wrap64_id (n := (m : Int) + 1 + 1) (by omega) (by omega)]; omega
                · have r := right_k (l := false) (vs := vs) c1 (by simp [kB, c1, hm, c2])
                  simp [c2, r, Try.results42]
        · have hall : ((List.range ks.length).all (kB ks)) = true := by
            rw [List.all_eq_true]; intro j hj; exact j2 j (by simp at hj; omega)
          simp [c1]
          refine aw_loop0 (fun k : Nat => k ≤ vs.length ∧ ∀ x ∈ vs.take k, vB x = true) (fun k => [(1, .p (.ref (nodeP false ks vs))), (4, .p (.int k))]) (fun k => vs.length - k) 0 (by simp) (leN_id (by simp)) ?_
          rintro k ⟨j1, j2⟩
          by_cases c1 : k < vs.length
          · simp [c1]
            by_cases b1 : vs[k] < 0
            · have r := right_v (l := false) (ks := ks) c1 (by simp [vB]; omega)
              simp [b1, r, Try.results42]
            · simp [b1, c1]
              by_cases b2 : 1099511627776 ≤ vs[k]
              · have r := right_v (l := false) (ks := ks) c1 (by simp [vB]; omega)
                simp [b2, r, Try.results42]
              · simp [b2]
                refine ⟨k + 1, ⟨by omega, ?_⟩, by omega, leN_id ?_⟩
                · rw [List.take_succ_eq_append_getElem c1]; simp only [List.mem_append, List.mem_singleton]; rintro x (hx | rfl); exact j2 x hx; simp [vB]; omega
                · simp [wrap64_id (n := (k : Int) + 1) (by omega) (by omega)]
          · have hall2 : vs.all vB = true := by
              rw [List.all_eq_true]; intro x hx; exact j2 x (by rw [List.take_of_length_le (by omega)]; exact hx)
            have r : rightB false ks vs = true := by simp only [rightB, h2, hall, hall2, decide_eq_true k1]; simp; omega
            simp [c1, r, Try.results42]
      · simp
        refine aw_loop0 (fun k : Nat => k ≤ ks.length ∧ ∀ j, j < k → kB ks j = true) (fun k => [(1, .p (.ref (nodeP true ks vs))), (3, .p (.int k))]) (fun k => ks.length - k) 0 (by simp) (leN_id (by simp)) ?_
        rintro k ⟨j1, j2⟩
        by_cases c1 : k < ks.length
        · have hl := hs ks[k] (by simp)
          simp [c1]
          by_cases b1 : (ks[k].length : Int) < 1
          · have r := right_k (l := true) (vs := vs) c1 (by simp [kB, c1]; omega)
            simp [b1, r, Try.results42]
          · simp [b1, c1]
            by_cases b2 : 100 < (ks[k].length : Int)
            · have r := right_k (l := true) (vs := vs) c1 (by simp [kB, c1]; omega)
              simp [b2, r, Try.results42]
            · simp [b2]
              cases k with
              | zero =>
                simp
                refine ⟨1, ⟨by omega, ?_⟩, by omega, leN_id ?_⟩
                · intro j hj; obtain rfl : j = 0 := by omega
                  simp [kB, c1]; omega
                · simp [wrap64_id]
              | succ m =>
                have hm : m < ks.length := by omega
                have w1 : IntKind.i64.wrap (m : Int) = (m : Int) := wrap64_id (by omega) (by omega)
                have hl' := hs ks[m] (by simp)
                have p1 : (0 : Int) < (m : Int) + 1 := by omega
                have p2 : (0 : Int) ≤ (m : Int) + 1 := by omega
                simp [w1, hm, c1, ↓p1, p2]
                refine call_of (less_p _ _ hl' hl) ?_
                by_cases c2 : Op.bytesLess ks[m] ks[m + 1] = true
                · simp [c2]
                  refine ⟨m + 2, ⟨by omega, ?_⟩, by omega, leN_id ?_⟩
                  · intro j hj
                    by_cases hj' : j < m + 1
                    · exact j2 j hj'
                    · obtain rfl : j = m + 1 := by omega
                      simp [kB, c1, hm, c2]; omega
                  · simp [wrap64_id (n := (m : Int) + 1 + 1) (by omega) (by omega)]; omega
                · have r := right_k (l := true) (vs := vs) c1 (by simp [kB, c1, hm, c2])
                  simp [c2, r, Try.results42]
        · have hall : ((List.range ks.length).all (kB ks)) = true := by
            rw [List.all_eq_true]; intro j hj; exact j2 j (by simp at hj; omega)
          simp [c1]
          refine aw_loop0 (fun k : Nat => k ≤ vs.length ∧ ∀ x ∈ vs.take k, vB x = true) (fun k => [(1, .p (.ref (nodeP true ks vs))), (4, .p (.int k))]) (fun k => vs.length - k) 0 (by simp) (leN_id (by simp)) ?_
          rintro k ⟨j1, j2⟩
          by_cases c1 : k < vs.length
          · simp [c1]
            by_cases b1 : vs[k] < 0
            · have r := right_v (l := true) (ks := ks) c1 (by simp [vB]; omega)
              simp [b1, r, Try.results42]
            · simp [b1, c1]
              by_cases b2 : 1099511627776 ≤ vs[k]
              · have r := right_v (l := true) (ks := ks) c1 (by simp [vB]; omega)
                simp [b2, r, Try.results42]
              · simp [b2]
                refine ⟨k + 1, ⟨by omega, ?_⟩, by omega, leN_id ?_⟩
                · rw [List.take_succ_eq_append_getElem c1]; simp only [List.mem_append, List.mem_singleton]; rintro x (hx | rfl); exact j2 x hx; simp [vB]; omega
                · simp [wrap64_id (n := (k : Int) + 1) (by omega) (by omega)]
          · have hall2 : vs.all vB = true := by
              rw [List.all_eq_true]; intro x hx; exact j2 x (by rw [List.take_of_length_le (by omega)]; exact hx)
            have r : rightB true ks vs = true := by simp only [rightB, h2, hall, hall2, decide_eq_true k1]; rfl
            simp [c1, r, Try.results42]

theorem bl_irrefl : ∀ a : List UInt8, Op.bytesLess a a = false
  | [] => rfl
  | x :: a => by
    have h2 : ¬ x < x := fun k => by have : x.toNat < x.toNat := k; omega
    simp [Op.bytesLess, h2, bl_irrefl a]
theorem bl_trans : ∀ {a b c : List UInt8}, Op.bytesLess a b = true → Op.bytesLess b c = true → Op.bytesLess a c = true
  | _, [], _, h, _ => by simp [Op.bytesLess] at h
  | _, _ :: _, [], _, h => by simp [Op.bytesLess] at h
  | [], _ :: _, _ :: _, _, _ => rfl
  | x :: a, y :: b, z :: c, h, k => by
    simp only [Op.bytesLess, Bool.or_eq_true, decide_eq_true_eq, Bool.and_eq_true, beq_iff_eq] at h k ⊢
    have lt_iff : ∀ p q : UInt8, p < q ↔ p.toNat < q.toNat := fun p q => Iff.rfl
    simp only [lt_iff] at h k ⊢
    rcases h with h | ⟨h, h'⟩
    · rcases k with k | ⟨k, k'⟩
      · exact .inl (by omega)
      · subst k; exact .inl h
    · subst h
      rcases k with k | ⟨k, k'⟩
      · exact .inl k
      · subst k; exact .inr ⟨rfl, bl_trans h' k'⟩
theorem bl_asymm {a b : List UInt8} (h : Op.bytesLess a b = true) : Op.bytesLess b a = false := by
  cases k : Op.bytesLess b a with
  | false => rfl
  | true => have := bl_trans h k; rw [bl_irrefl] at this; cases this
/-- each below the next -/
def chn : List (List UInt8) → Prop
  | [] => True
  | [_] => True
  | a :: b :: l => Op.bytesLess a b = true ∧ chn (b :: l)
theorem chn_of : ∀ {l : List (List UInt8)}, (∀ i (h : i + 1 < l.length), Op.bytesLess l[i] l[i + 1] = true) → chn l
  | [], _ => trivial
  | [_], _ => trivial
  | a :: b :: l, h => ⟨h 0 (by simp), chn_of fun i hi => h (i + 1) (by simpa using hi)⟩
theorem chn_at : ∀ {l : List (List UInt8)}, chn l → ∀ i (h : i + 1 < l.length), Op.bytesLess l[i] l[i + 1] = true
  | [], _, i, h => by simp at h
  | [_], _, i, h => by simp at h
  | a :: b :: l, ⟨h1, h2⟩, 0, _ => h1
  | a :: b :: l, ⟨h1, h2⟩, i + 1, h => chn_at h2 i (by simpa using h)
theorem chn_ins {key : List UInt8} {B : List (List UInt8)} (hB : ∀ b, B.head? = some b → Op.bytesLess key b = true) : ∀ {A : List (List UInt8)}, chn (A ++ B) → (∀ a ∈ A, Op.bytesLess a key = true) → chn (A ++ key :: B)
  | [], h, _ => by
    cases B with
    | nil => trivial
    | cons b B => exact ⟨hB b rfl, h⟩
  | [a], h, hA => by
    cases B with
    | nil => exact ⟨hA a (by simp), trivial⟩
    | cons b B => exact ⟨hA a (by simp), hB b rfl, h.2⟩
  | a :: a' :: A, h, hA => ⟨h.1, chn_ins hB (A := a' :: A) h.2 fun x hx => hA x (by simp at hx ⊢; exact .inr hx)⟩
theorem below_take (p : List UInt8 → Bool) : ∀ (ks : List (List UInt8)), ∀ x ∈ ks.take (below p ks), p x = true
  | [], x, h => by simp at h
  | a :: ks, x, h => by
    unfold below at h
    simp only [List.takeWhile_cons] at h
    split at h
    · rename_i ha
      simp only [List.length_cons, List.take_succ_cons, List.mem_cons] at h
      rcases h with rfl | h
      · exact ha
      · exact below_take p ks x h
    · simp at h
theorem below_stop (p : List UInt8 → Bool) : ∀ (ks : List (List UInt8)) (h : below p ks < ks.length), p ks[below p ks] = false
  | [], h => by simp at h
  | a :: ks, h => by
    by_cases ha : p a = true
    · have e : below p (a :: ks) = below p ks + 1 := by simp [below, ha]
      have h' : below p ks < ks.length := by rw [e] at h; simpa using h
      have := below_stop p ks h'
      simp only [e, List.getElem_cons_succ]; exact this
    · have e : below p (a :: ks) = 0 := by simp [below, ha]
      simp only [e, List.getElem_cons_zero]; simpa using ha
theorem right_chn {l : Bool} {ks : List (List UInt8)} {vs : List Int} (h : rightB l ks vs = true) : chn ks ∧ ks.length ≤ 4 ∧ fmd l ks vs = true ∧ (∀ s ∈ ks, s.length ≤ 100) := by
  simp only [rightB, Bool.and_eq_true, decide_eq_true_eq, List.all_eq_true, List.mem_range] at h
  obtain ⟨⟨⟨⟨h1, h2⟩, _⟩, h4⟩, _⟩ := h
  refine ⟨chn_of fun i hi => ?_, h1, h2, fun s hs => ?_⟩
  · have := h4 (i + 1) hi
    simp only [kB, Bool.and_eq_true, Bool.or_eq_true] at this
    have := this.2
    have e1 : i < ks.length := by omega
    simpa [hi, e1] using this
  · obtain ⟨i, hi, rfl⟩ := List.getElem_of_mem hs
    have := h4 i hi
    simp [kB, hi] at this
    exact this.1.2

theorem bor_view {bx : List (Nat × Ob)} {a n : Nat} {c : Option Nat} {e : TypeId} {L : List PC} (ha : lk a bx = some ⟨e, 1, (L.flatMap pcs).map .p⟩) (hn : n = L.length) (hw : ∀ x ∈ L, x.width = 1) (ht : ∀ x ∈ L, noTup x = true) :
    borF bx 4 (.view a 0 n 1 c) (.sl L) := by
  subst hn
  have hl : (L.flatMap pcs).length = L.length := by have := pcsl_len (s := 1) hw; omega
  refine ⟨_, ha, by omega, rfl, by simp [hl], ?_, hw, ht⟩
  simp only [Nat.zero_mul, List.drop_zero, Nat.mul_one, flat_pcs]
  exact List.take_of_length_le (by simp [hl])
theorem concat45p (L : List (List PC)) (hw : ∀ l ∈ L, ∀ x ∈ l, x.width = 1) (ht : ∀ l ∈ L, ∀ x ∈ l, noTup x = true) (hb : (L.map List.length).sum ≤ 1000000000000) (hb2 : L.length ≤ 1000000000000) :
    PureC Try.prog 77 [.sl (L.map .sl)] (.sl L.flatten) :=
  pure_of_gen (xs := [_]) (concat77 0 L hw ht hb hb2) (bor_view (e := 9) (by simp) (by simp [List.length_flatten]) (fun x h => by obtain ⟨l, h1, h2⟩ := List.mem_flatten.1 h; exact hw l h1 x h2) (fun x h => by obtain ⟨l, h1, h2⟩ := List.mem_flatten.1 h; exact ht l h1 x h2))
theorem concat46p (L : List (List PC)) (hw : ∀ l ∈ L, ∀ x ∈ l, x.width = 1) (ht : ∀ l ∈ L, ∀ x ∈ l, noTup x = true) (hb : (L.map List.length).sum ≤ 1000000000000) (hb2 : L.length ≤ 1000000000000) :
    PureC Try.prog 78 [.sl (L.map .sl)] (.sl L.flatten) :=
  pure_of_gen (xs := [_]) (concat78 0 L hw ht hb hb2) (bor_view (e := 3) (by simp) (by simp [List.length_flatten]) (fun x h => by obtain ⟨l, h1, h2⟩ := List.mem_flatten.1 h; exact hw l h1 x h2) (fun x h => by obtain ⟨l, h1, h2⟩ := List.mem_flatten.1 h; exact ht l h1 x h2))
set_option maxHeartbeats 1000000 in
theorem merge26 (l : Bool) (ks : List (List UInt8)) (vs : List Int) (key : List UInt8) (l' : Bool) (ks' : List (List UInt8)) (vs' : List Int) (hk : ks.length ≤ 1000000000) (hv : vs.length ≤ 1000000000) (hk' : ks'.length ≤ 1000000000) (hv' : vs'.length ≤ 1000000000) :
    PureC Try.prog 62 [nodeP l ks vs, .str key, nodeP l' ks' vs'] (nodeP l (ks ++ (if l then [] else [key]) ++ ks') (vs ++ vs')) := by
  have c1 := concat45p [ks.map PC.str, [.str key]] (by simp) (by simp) (by simp; omega) (by simp)
  have c3 := concat46p [vs.map PC.int, vs'.map PC.int] (by simp) (by simp) (by simp; omega) (by simp)
  refine pure_of_aw (ys := [_]) [] [(4, [(14, .w [])])] [] mixed Try.func62 rfl (by kernel_rfl) (by kernel_rfl) (by simp [Try.ntmps62]) rfl ?_
  cases l
  · have c2 := concat45p [ks.map PC.str ++ [.str key], ks'.map PC.str] (by simp; rintro x (⟨a, _, rfl⟩ | rfl) <;> rfl) (by simp; rintro x (⟨a, _, rfl⟩ | rfl) <;> rfl) (by simp; omega) (by simp)
    simp
    refine pcall_of c1 (by simp) ?_
    simp
    refine call_of c2 ?_
    simp
    refine call_of c3 ?_
    simp [Try.results62]
  · have c2 := concat45p [ks.map PC.str, ks'.map PC.str] (by simp) (by simp) (by simp; omega) (by simp)
    simp
    refine call_of c2 ?_
    simp
    refine call_of c3 ?_
    simp [Try.results62]
end Go.Av

/-! part W11 -/
namespace Go.Av
open Go.Proofs
set_option maxRecDepth 100000


def kyB (s : List UInt8) : Bool := decide (1 ≤ s.length) && decide (s.length ≤ 100)
theorem keyed49 (s : List UInt8) : PureC Try.prog 83 [.str s] (.bool (kyB s)) := by
  refine pure_of_aw (ys := [_]) [] [] [] mixed Try.func83 rfl (by kernel_rfl) (by kernel_rfl) (by simp [Try.ntmps83]) rfl ?_
  cases s with
  | nil => simp [Try.results83, kyB]
  | cons x s =>
    have e : (x :: s != []) = true := rfl
    by_cases h : (s.length : Int) + 1 ≤ 100
    · have h' : s.length + 1 ≤ 100 := by omega
      simp [e, h, h', Try.results83, kyB]
    · have h' : ¬ s.length + 1 ≤ 100 := by omega
      simp [e, h, h', Try.results83, kyB]
theorem right48 (s : List UInt8) : PureC Try.prog 82 [.str s] (.bool (!kyB s)) := by
  refine pure_of_aw (ys := [_]) [] [] [] mixed Try.func82 rfl (by kernel_rfl) (by kernel_rfl) (by simp [Try.ntmps82]) rfl ?_
  simp
  refine pcall_of (keyed49 s) (by simp) ?_
  simp [Try.results82]
theorem right52 (v : Int) : PureC Try.prog 86 [.int v] (.bool (!vB v)) := by
  refine pure_of_aw (ys := [_]) [] [] [] mixed Try.func86 rfl (by kernel_rfl) (by kernel_rfl) (by simp [Try.ntmps86]) rfl ?_
  by_cases h : v < 0
  · have : vB v = false := by simp [vB]; omega
    simp [h, this, Try.results86]
  · by_cases h2 : 1099511627775 < v
    · have : vB v = false := by simp [vB]; omega
      simp [h, h2, this, Try.results86]
    · have : vB v = true := by simp [vB]; omega
      simp [h, h2, this, Try.results86]
def riB (ks : List (List UInt8)) (j : Nat) : Bool := j == 0 || Op.bytesLess (ks.getD (j - 1) []) (ks.getD j [])
theorem rises50 (ks : List (List UInt8)) (hk : ks.length ≤ 9223372036854775807) : PureC Try.prog 84 [.sl (ks.map PC.str)] (.bool ((List.range ks.length).all (riB ks))) := by
  refine pure_of_aw (ys := [_]) [] [] [] mixed Try.func84 rfl (by kernel_rfl) (by kernel_rfl) (by simp [Try.ntmps84]) rfl ?_
  simp
  refine aw_loop0 (fun k : Nat => (k ≤ ks.length ∨ k = 0) ∧ ∀ j, j < k + 1 → j < ks.length → riB ks j = true) (fun k => [(0, .p (.sl (ks.map PC.str))), (3, .p (.int (k + 1)))]) (fun k => ks.length - k) 0 ⟨.inr rfl, ?_⟩ (leN_id (by simp)) ?_
  · intro j hj _; obtain rfl : j = 0 := by omega
    rfl
  rintro k ⟨j1, j2⟩
  by_cases c1 : k + 1 < ks.length
  · have c1' : (k : Int) + 1 < (ks.length : Int) := by omega
    have hm : k < ks.length := by omega
    have w1 : IntKind.i64.wrap (k : Int) = (k : Int) := wrap64_id (by omega) (by omega)
    have p2 : (0 : Int) ≤ (k : Int) + 1 := by omega
    have t1 : ((k : Int) + 1).toNat = k + 1 := by omega
    simp [c1, c1', w1, hm, p2, t1]
    by_cases c2 : Op.bytesLess ks[k] ks[k + 1] = true
    · simp [c2]
      refine ⟨k + 1, ⟨by omega, ?_⟩, by omega, leN_id ?_⟩
      · intro j hj hl
        by_cases hj' : j < k + 1
        · exact j2 j hj' hl
        · obtain rfl : j = k + 1 := by omega
          simp [riB, c1, hm, c2]
      · simp [wrap64_id (n := (k : Int) + 1 + 1) (by omega) (by omega)]
    · have r : (List.range ks.length).all (riB ks) = false := by
        rw [List.all_eq_false]; exact ⟨k + 1, by simpa using c1, by simp [riB, c1, hm, c2]⟩
      simp [c2, r, Try.results84]
  · have c1' : ¬ (k : Int) + 1 < (ks.length : Int) := by omega
    have r : (List.range ks.length).all (riB ks) = true := by
      rw [List.all_eq_true]; intro j hj; simp at hj; exact j2 j (by omega) hj
    simp [c1', r, Try.results84]
/-- where the first is that q takes, or -1 -/
def idxI (q : Int → Bool) (vs : List Int) : Int := if (vs.takeWhile (fun v => !q v)).length < vs.length then ((vs.takeWhile (fun v => !q v)).length : Nat) else -1
theorem idxF_any (q : List UInt8 → Bool) (ks : List (List UInt8)) : decide (0 ≤ idxF q ks) = ks.any q := by
  unfold idxF
  by_cases h : below (fun s => !q s) ks < ks.length
  · have := below_stop _ _ h
    have e : ks.any q = true := by rw [List.any_eq_true]; exact ⟨_, List.getElem_mem h, by simpa using this⟩
    simp [h, e]
  · have hb := below_le (fun s => !q s) ks
    have e : ks.any q = false := by
      rw [List.any_eq_false]; intro x hx
      have := below_take (fun s => !q s) ks x (by rw [List.take_of_length_le (by omega)]; exact hx)
      simpa using this
    simp [h, e]
theorem contains47 {g : FuncId} {caps : List PC} (q : List UInt8 → Bool) (ks : List (List UInt8)) (hk : ks.length ≤ 9223372036854775807) (h : ∀ s ∈ ks, PureC Try.prog g (.str s :: caps) (.bool (q s))) :
    PureC Try.prog 80 [.sl (ks.map PC.str), .fn (.func g) caps] (.bool (ks.any q)) := by
  refine pure_of_aw (ys := [_]) [] [] [] mixed Try.func80 rfl (by kernel_rfl) (by kernel_rfl) (by simp [Try.ntmps80]) rfl ?_
  simp
  refine pcall_of (index55 q ks hk h) (by simp) ?_
  simp [idxF_any, Try.results80]
theorem upto_of {p : Int → Bool} {vs : List Int} {k : Nat} (h : ∀ x ∈ vs.take k, p x = true) (hk : k ≤ vs.length) (he : (hk : k < vs.length) → p vs[k] = false) : (vs.takeWhile p).length = k := by
  induction vs generalizing k with
  | nil => simp at hk; simp [hk]
  | cons a ks ih =>
    cases k with
    | zero => have := he (by simp); simp at this; simp [this]
    | succ k =>
      have ha := h a (by simp)
      have := ih (k := k) (fun x hx => h x (by simp [hx])) (by simpa using hk) (fun hk' => by have := he (by simp; omega); simpa using this)
      simp [ha, this]
theorem index66 {g : FuncId} {caps : List PC} (q : Int → Bool) (vs : List Int) (hk : vs.length ≤ 9223372036854775807) (h : ∀ s ∈ vs, PureC Try.prog g (.int s :: caps) (.bool (q s))) :
    PureC Try.prog 91 [.sl (vs.map PC.int), .fn (.func g) caps] (.int (idxI q vs)) := by
  refine pure_of_aw (ys := [_]) [] [] [] mixed Try.func91 rfl (by kernel_rfl) (by kernel_rfl) (by simp [Try.ntmps91]) rfl ?_
  simp
  refine aw_loop0 (fun k : Nat => k ≤ vs.length ∧ ∀ x ∈ vs.take k, (!q x) = true) (fun k => [(0, .p (.sl (vs.map PC.int))), (1, .p (.fn (.func g) caps)), (7, .p (.int vs.length)), (8, .p (.int k))]) (fun k => vs.length - k) 0 (by simp) (leN_id (by simp)) ?_
  rintro k ⟨h1, h2⟩
  by_cases c1 : k < vs.length
  · simp [c1]
    refine pcall_of (h vs[k] (by simp)) (by simp) ?_
    by_cases c2 : q vs[k] = true
    · have e := upto_of (p := fun v => !q v) h2 h1 (fun _ => by simpa using c2)
      simp [c2, idxI, e, c1, Try.results91]
    · simp [c2]
      refine ⟨k + 1, ⟨by omega, ?_⟩, by omega, leN_id ?_⟩
      · rw [List.take_succ_eq_append_getElem c1]; simp only [List.mem_append, List.mem_singleton]; rintro x (hx | rfl); (have := h2 x hx; simpa using this); simpa using c2
      · simp [wrap64_id (n := (k : Int) + 1) (by omega) (by omega)]
  · have e := upto_of (p := fun v => !q v) h2 h1 (fun h => absurd h c1)
    simp [e, c1, idxI, Try.results91]
theorem idxI_any (q : Int → Bool) (vs : List Int) : decide (0 ≤ idxI q vs) = vs.any q := by
  unfold idxI
  induction vs with
  | nil => rfl
  | cons a l ih =>
    cases h : q a with
    | true => simp [h]
    | false =>
      simp only [List.takeWhile_cons, h, Bool.not_false, if_true, List.length_cons, Nat.add_lt_add_iff_right, List.any_cons, Bool.false_or]
      rw [← ih]
      split <;> simp <;> omega
theorem contains51 {g : FuncId} {caps : List PC} (q : Int → Bool) (vs : List Int) (hk : vs.length ≤ 9223372036854775807) (h : ∀ s ∈ vs, PureC Try.prog g (.int s :: caps) (.bool (q s))) :
    PureC Try.prog 85 [.sl (vs.map PC.int), .fn (.func g) caps] (.bool (vs.any q)) := by
  refine pure_of_aw (ys := [_]) [] [] [] mixed Try.func85 rfl (by kernel_rfl) (by kernel_rfl) (by simp [Try.ntmps85]) rfl ?_
  simp
  refine pcall_of (index66 q vs hk h) (by simp) ?_
  simp [idxI_any, Try.results85]
theorem rightB_eq (l : Bool) (ks : List (List UInt8)) (vs : List Int) : rightB l ks vs = (!(ks.any fun s => !kyB s) && (List.range ks.length).all (riB ks) && !(vs.any fun v => !vB v) && decide (ks.length ≤ 4) && fmd l ks vs && (l || decide (0 < ks.length))) := by
  have e1 : (List.range ks.length).all (kB ks) = (!(ks.any fun s => !kyB s) && (List.range ks.length).all (riB ks)) := by
    rw [Bool.eq_iff_iff]
    simp only [List.all_eq_true, List.mem_range, Bool.and_eq_true, Bool.not_eq_true', List.any_eq_false, Bool.not_eq_true, Bool.not_eq_false']
    constructor
    · intro h
      refine ⟨fun s hs => ?_, fun j hj => ?_⟩
      · obtain ⟨i, hi, rfl⟩ := List.getElem_of_mem hs
        have := h i hi
        simp only [kB, Bool.and_eq_true] at this
        simpa [kyB, hi] using this.1
      · have := h j hj
        simp only [kB, Bool.and_eq_true] at this
        exact this.2
    · rintro ⟨h1, h2⟩ j hj
      have a := h1 ks[j] (by simp)
      have b := h2 j hj
      simp only [kB, Bool.and_eq_true]
      refine ⟨?_, b⟩
      simpa [kyB, hj] using a
  have e2 : vs.all vB = !(vs.any fun v => !vB v) := by
    rw [Bool.eq_iff_iff]; simp
  unfold rightB
  rw [e1, e2]
  cases (ks.any fun s => !kyB s) <;> cases (List.range ks.length).all (riB ks) <;> cases (vs.any fun v => !vB v) <;> cases decide (ks.length ≤ 4) <;> cases fmd l ks vs <;> cases (l || decide (0 < ks.length)) <;> rfl
set_option maxHeartbeats 1000000 in
theorem right29 (l : Bool) (ks : List (List UInt8)) (vs : List Int) (hk : ks.length ≤ 9223372036854775807) (hv : vs.length ≤ 9223372036854775807) : PureC Try.prog 66 [nodeP l ks vs] (.bool (rightB l ks vs)) := by
  rw [rightB_eq]
  have c1 := contains47 (g := 82) (caps := []) (fun s => !kyB s) ks hk fun s _ => right48 s
  have c2 := rises50 ks hk
  have c3 := contains51 (g := 86) (caps := []) (fun v => !vB v) vs hv fun s _ => right52 s
  refine pure_of_aw (ys := [_]) [] [] [] mixed Try.func66 rfl (by kernel_rfl) (by kernel_rfl) (by simp [Try.ntmps66]) rfl ?_
  simp
  refine pcall_of c1 (by simp) ?_
  cases (ks.any fun s => !kyB s)
  · simp
    refine pcall_of c2 (by simp) ?_
    simp
    refine pcall_of c3 (by simp) ?_
    cases (List.range ks.length).all (riB ks) <;> cases (vs.any fun v => !vB v) <;> try (simp [Try.results66]; done)
    by_cases h4 : (ks.length : Int) ≤ 4
    · have h4' : ks.length ≤ 4 := by omega
      simp [h4, h4']
      refine pcall_of (formed37 l ks vs (by omega)) (by simp) ?_
      cases fmd l ks vs
      · simp [Try.results66]
      · cases l
        · by_cases h0 : 0 < ks.length
          · simp [h0, Try.results66]
          · simp [h0, Try.results66]
        · simp [Try.results66]
    · have h4' : ¬ ks.length ≤ 4 := by omega
      simp [h4, h4', Try.results66]
  · simp
    refine pcall_of c3 (by simp) ?_
    cases (vs.any fun v => !vB v)
    · simp [Try.results66]
    · simp [Try.results66]
end Go.Av
