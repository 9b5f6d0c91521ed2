/- What the node functions compute, for every node, key and number: no condition but bounds on lengths. -/
import Derived.Test.YtlpeicdpndmfoaaTf
set_option linter.all false
/-! part AvT2 -/
namespace Go.Av
open Go.Proofs

theorem mixed : Try.prog.follows .mixedOrders = true := by kernel_rfl

@[simp] theorem u8_lt {x y : UInt8} : (decide ((x.toNat : Int) < (y.toNat : Int))) = decide (x < y) := by
  simp [UInt8.lt_iff_toNat_lt]
@[simp] theorem u8_ne {x y : UInt8} : ((x.toNat : Int) != (y.toNat : Int)) = (x != y) := by
  rw [Bool.eq_iff_iff]; simp [← UInt8.toNat_inj]; omega

theorem less_at {a b : List UInt8} {k : Nat} (h : a.take k = b.take k) (ha : k ≤ a.length) (hb : k ≤ b.length) : Op.bytesLess a b = Op.bytesLess (a.drop k) (b.drop k) := by
  induction k generalizing a b with
  | zero => simp
  | succ k ih =>
    match a, b, ha, hb with
    | x :: a, y :: b, ha, hb =>
      simp at h ha hb
      obtain ⟨rfl, h⟩ := h
      simp [Op.bytesLess, ih h ha hb]

theorem less_ne {a b : List UInt8} {k : Nat} (h : a.take k = b.take k) (ha : k < a.length) (hb : k < b.length) (hn : a[k] ≠ b[k]) : Op.bytesLess a b = decide (a[k] < b[k]) := by
  rw [less_at h (by omega) (by omega), List.drop_eq_getElem_cons ha, List.drop_eq_getElem_cons hb]
  simp [Op.bytesLess, hn]
theorem less_end {a b : List UInt8} {k : Nat} (h : a.take k = b.take k) (ha : k ≤ a.length) (hb : k ≤ b.length) (hn : k = a.length ∨ k = b.length) : Op.bytesLess a b = decide (a.length < b.length) := by
  rw [less_at h ha hb]
  rcases hn with rfl | rfl
  · rw [List.drop_length]
    cases hd : b.drop a.length with
    | nil => have := congrArg List.length hd; simp at this; simp [Op.bytesLess]; omega
    | cons x l => have := congrArg List.length hd; simp at this; simp [Op.bytesLess]; omega
  · rw [List.drop_length]
    simp [Op.bytesLess]; omega

set_option maxHeartbeats 400000 in
theorem less_p (a b : List UInt8) (ha : a.length ≤ 9223372036854775807) (hb : b.length ≤ 9223372036854775807) : PureC Try.prog 22 [.str a, .str b] (.bool (Op.bytesLess a b)) := by
  refine pure_of_aw (ys := [.bool _]) [] [] [] mixed Try.func22 rfl (by kernel_rfl) (by kernel_rfl) (by simp [Try.ntmps22]) rfl ?_
  simp
  refine aw_loop0 (fun k : Nat => k ≤ a.length ∧ k ≤ b.length ∧ a.take k = b.take k) (fun k => [(0, .p (.str a)), (1, .p (.str b)), (5, .p (.int k))]) (fun k => a.length - k) 0 (by simp) (leN_id (by simp)) ?_
  rintro k ⟨h1, h2, h3⟩
  by_cases c1 : k < a.length
  · by_cases c2 : k < b.length
    · by_cases c3 : a[k] = b[k]
      · simp [c1, c2, c3]
        refine ⟨k + 1, ⟨by omega, by omega, ?_⟩, by omega, leN_id ?_⟩
        · rw [List.take_succ_eq_append_getElem c1, List.take_succ_eq_append_getElem c2, h3, c3]
        · simp [wrap64_id (n := (k : Int) + 1) (by omega) (by omega)]
      · have c4 : (a[k] != b[k]) = true := by simpa using c3
        simp [c1, c2, c4, Try.results22, less_ne h3 c1 c2 c3, UInt8.lt_iff_toNat_lt]
    · simp [c1, c2, Try.results22, less_end h3 h1 h2 (by omega)]
  · simp [c1, Try.results22, less_end h3 h1 h2 (by omega)]
end Go.Av

/-! part AvT4 -/
namespace Go.Av
open Go.Proofs

abbrev nodeP (l : Bool) (ks : List (List UInt8)) (vs : List Int) : PC := .agg false [.bool l, .sl (ks.map PC.str), .sl (vs.map PC.int)]

def below (p : List UInt8 → Bool) (ks : List (List UInt8)) : Nat := (ks.takeWhile p).length

theorem below_le (p : List UInt8 → Bool) (ks : List (List UInt8)) : below p ks ≤ ks.length := by
  induction ks with
  | nil => simp [below]
  | cons a ks ih => unfold below at *; simp only [List.takeWhile_cons, List.length_cons]; split <;> simp <;> omega

theorem below_of {p : List UInt8 → Bool} {ks : List (List UInt8)} {k : Nat} (h : ∀ x ∈ ks.take k, p x = true) (hk : k ≤ ks.length) (he : (hk : k < ks.length) → p ks[k] = false) : below p ks = k := by
  induction ks generalizing k with
  | nil => simp at hk; simp [below, hk]
  | cons a ks ih =>
    cases k with
    | zero => have := he (by simp); simp at this; simp [below, this]
    | succ k =>
      have ha := h a (by simp)
      have := ih (k := k) (fun x hx => h x (by simp [hx])) (by simpa using hk) (fun hk' => by have := he (by simp; omega); simpa using this)
      unfold below at *; simp [ha, this]

set_option maxHeartbeats 400000 in
theorem find_p (l : Bool) (ks : List (List UInt8)) (vs : List Int) (key : List UInt8) (hn : ks.length ≤ 9223372036854775807) (hs : ∀ s ∈ ks, s.length ≤ 9223372036854775807) (hk : key.length ≤ 9223372036854775807) :
    PureC Try.prog 12 [nodeP l ks vs, .str key] (.tp [.int (below (fun s => Op.bytesLess s key) ks), .bool (ks[below (fun s => Op.bytesLess s key) ks]? == some key)]) := by
  refine pure_of_aw (ys := [_, _]) [] [] [] mixed Try.func12 rfl (by kernel_rfl) (by kernel_rfl) (by simp [Try.ntmps12]) rfl ?_
  simp
  refine aw_loop0 (fun k : Nat => k ≤ ks.length ∧ ∀ x ∈ ks.take k, Op.bytesLess x key = true) (fun k => [(2, .p (.ref (nodeP l ks vs))), (1, .p (.str key)), (6, .p (.int k))]) (fun k => ks.length - k) 0 (by simp) (leN_id (by simp)) ?_
  rintro k ⟨h1, h2⟩
  by_cases c1 : k < ks.length
  · have hl := hs ks[k] (by simp)
    simp [c1]
    refine pcall_of (less_p _ _ hl hk) (by simp) ?_
    by_cases c2 : Op.bytesLess ks[k] key = true
    · simp [c2]
      refine ⟨k + 1, ⟨by omega, ?_⟩, by omega, leN_id ?_⟩
      · rw [List.take_succ_eq_append_getElem c1]; simp only [List.mem_append, List.mem_singleton]; rintro x (hx | rfl); exact h2 x hx; exact c2
      · simp [wrap64_id (n := (k : Int) + 1) (by omega) (by omega)]
    · have e := below_of h2 h1 (fun _ => by simpa using c2)
      simp [c2, e, c1, Try.results12]
  · have e := below_of h2 h1 (fun h => absurd h c1)
    simp [e, c1, Try.results12]
end Go.Av

/-! part N17a -/
namespace Go.Av
open Go.Proofs

theorem ovl_59 : OvlC Try.prog 59 := ⟨Try.f59, 22, 4, 9, Try.func59, by kernel_rfl, by kernel_rfl, by kernel_rfl, by kernel_rfl, by kernel_rfl, by kernel_rfl⟩

theorem ovl_61 : OvlC Try.prog 61 := ⟨Try.f61, 23, 4, 3, Try.func61, by kernel_rfl, by kernel_rfl, by kernel_rfl, by kernel_rfl, by kernel_rfl, by kernel_rfl⟩

theorem can_57 : CanCall Try.prog 57 := ⟨Try.f57, Try.func57, by kernel_rfl, by kernel_rfl⟩

set_option maxHeartbeats 400000 in
theorem clone57 (nx : Nat) (xs : List PC) (hw : ∀ x ∈ xs, x.width = 1) (ht : ∀ x ∈ xs, noTup x = true) (hb : xs.length ≤ 1000000000000) :
    GenC Try.prog 57 [.p (.sl xs)] ⟨[], [], nx⟩ (.view nx 0 xs.length 1 none) ⟨[(nx, ⟨9, 1, (xs.flatMap pcs).map .p⟩)], [], nx + 1⟩ := by
  refine gen_nil (pre := []) (post := []) can_57 ?_ ?_
  · rintro rfl
    refine gen_void (r := .p .nil) (tb' := ⟨[], [], nx⟩) (el := 9) (s := 1) ?_ trivial
    refine gen_of_aw (rs := [.p .nil]) [7] [] [] mixed Try.func57 rfl (by kernel_rfl) (by kernel_rfl) (by simp [Try.ntmps57]) rfl ?_
    simp [Try.results57]
    exact ⟨[], by simp⟩
  · refine gen_of_aw (rs := [_]) [7] [] [] mixed Try.func57 rfl (by kernel_rfl) (by kernel_rfl) (by simp [Try.ntmps57]) rfl ?_
    simp [Try.results57]
    refine ⟨hw, ht, by omega, by omega, [], ?_⟩
    simp

theorem can_58 : CanCall Try.prog 58 := ⟨Try.f58, Try.func58, by kernel_rfl, by kernel_rfl⟩

set_option maxHeartbeats 400000 in
theorem clone58 (nx : Nat) (xs : List PC) (hw : ∀ x ∈ xs, x.width = 1) (ht : ∀ x ∈ xs, noTup x = true) (hb : xs.length ≤ 1000000000000) :
    GenC Try.prog 58 [.p (.sl xs)] ⟨[], [], nx⟩ (.view nx 0 xs.length 1 none) ⟨[(nx, ⟨3, 1, (xs.flatMap pcs).map .p⟩)], [], nx + 1⟩ := by
  refine gen_nil (pre := []) (post := []) can_58 ?_ ?_
  · rintro rfl
    refine gen_void (r := .p .nil) (tb' := ⟨[], [], nx⟩) (el := 3) (s := 1) ?_ trivial
    refine gen_of_aw (rs := [.p .nil]) [7] [] [] mixed Try.func58 rfl (by kernel_rfl) (by kernel_rfl) (by simp [Try.ntmps58]) rfl ?_
    simp [Try.results58]
    exact ⟨[], by simp⟩
  · refine gen_of_aw (rs := [_]) [7] [] [] mixed Try.func58 rfl (by kernel_rfl) (by kernel_rfl) (by simp [Try.ntmps58]) rfl ?_
    simp [Try.results58]
    refine ⟨hw, ht, by omega, by omega, [], ?_⟩
    simp

theorem can_42 : CanCall Try.prog 42 := ⟨Try.f42, Try.func42, by kernel_rfl, by kernel_rfl⟩

set_option maxHeartbeats 1000000 in
theorem delete42 (nx id : Nat) (hid : id < nx) (cs : List PC) (n i j : Nat) (hn : cs.length = n * 1) (hij : i ≤ j) (hj : j ≤ n) (hb : n ≤ 1000000000000) :
    GenC Try.prog 42 [.view id 0 n 1 none, .p (.int i), .p (.int j)] ⟨[(id, ⟨9, 1, cs.map .p⟩)], [], nx⟩
      (.view nx 0 (n - (j - i)) 1 none) ⟨[(nx, ⟨9, 1, (cs.take (i * 1) ++ cs.drop (j * 1)).map .p⟩)], [], nx + 1⟩ := by
  have hne : ¬ id = nx := by omega
  have hne2 : ¬ nx = id := by omega
  have hcl : (cs.map AV.p).length = n := by simp; omega
  refine gen_split (pre := []) (post := [_, _]) can_42 (fun c h1 h2 h3 => ?_) ?_
  · refine gen_of_aw (rs := [_]) [] [(5, [(6, .w [])])] [] mixed Try.func42 rfl (by kernel_rfl) (by kernel_rfl) (by simp [Try.ntmps42]) rfl ?_
    generalize hA : cs.map AV.p = A at *
    by_cases c0 : i = j
    · subst c0
      have hd : List.take i A ++ List.drop i A = A := List.take_append_drop _ _
      simp [Try.results42, hne, hne2]
      exact ⟨hj, [(nx, id)], by simp [hA]⟩
    · have e0 : ((i : Int) == (j : Int)) = false := by rw [beq_eq_false_iff_ne]; omega
      have t1 : ((i : Int) + ((n - j : Nat) : Int)).toNat = i + (n - j) := by omega
      have key := fun R => spl_del (R := R) hcl hij hj rfl
      simp [e0, t1, Try.results42, hne, hne2]
      repeat' refine And.intro ?_ ?_
      all_goals first | omega | skip
      refine .inl ?_
      repeat' refine And.intro ?_ ?_
      all_goals first | omega | (simp; omega) | skip
      refine ⟨[(nx, id)], ?_⟩
      simp [hA, key]
      omega
  · intro hn0
    have hi0 : i = 0 := by omega
    have hj0 : j = 0 := by omega
    have hc0 : cs = [] := List.eq_nil_of_length_eq_zero (by omega)
    subst hi0; subst hj0; subst hc0; subst hn0
    refine gen_void (r := .full []) (tb' := ⟨[], [], nx⟩) (el := 9) (s := 1) ?_ trivial
    refine gen_of_aw (rs := [_]) [] [(5, [(6, .w [])])] [] mixed Try.func42 rfl (by kernel_rfl) (by kernel_rfl) (by simp [Try.ntmps42]) rfl ?_
    simp [Try.results42]
    repeat' refine And.intro ?_ ?_
    all_goals first | omega | exact ⟨[], by simp⟩ | simp

theorem can_43 : CanCall Try.prog 43 := ⟨Try.f43, Try.func43, by kernel_rfl, by kernel_rfl⟩

set_option maxHeartbeats 1000000 in
theorem delete43 (nx id : Nat) (hid : id < nx) (cs : List PC) (n i j : Nat) (hn : cs.length = n * 1) (hij : i ≤ j) (hj : j ≤ n) (hb : n ≤ 1000000000000) :
    GenC Try.prog 43 [.view id 0 n 1 none, .p (.int i), .p (.int j)] ⟨[(id, ⟨3, 1, cs.map .p⟩)], [], nx⟩
      (.view nx 0 (n - (j - i)) 1 none) ⟨[(nx, ⟨3, 1, (cs.take (i * 1) ++ cs.drop (j * 1)).map .p⟩)], [], nx + 1⟩ := by
  have hne : ¬ id = nx := by omega
  have hne2 : ¬ nx = id := by omega
  have hcl : (cs.map AV.p).length = n := by simp; omega
  refine gen_split (pre := []) (post := [_, _]) can_43 (fun c h1 h2 h3 => ?_) ?_
  · refine gen_of_aw (rs := [_]) [] [(5, [(6, .w [])])] [] mixed Try.func43 rfl (by kernel_rfl) (by kernel_rfl) (by simp [Try.ntmps43]) rfl ?_
    generalize hA : cs.map AV.p = A at *
    by_cases c0 : i = j
    · subst c0
      have hd : List.take i A ++ List.drop i A = A := List.take_append_drop _ _
      simp [Try.results43, hne, hne2]
      exact ⟨hj, [(nx, id)], by simp [hA]⟩
    · have e0 : ((i : Int) == (j : Int)) = false := by rw [beq_eq_false_iff_ne]; omega
      have t1 : ((i : Int) + ((n - j : Nat) : Int)).toNat = i + (n - j) := by omega
      have key := fun R => spl_del (R := R) hcl hij hj rfl
      simp [e0, t1, Try.results43, hne, hne2]
      repeat' refine And.intro ?_ ?_
      all_goals first | omega | skip
      refine .inl ?_
      repeat' refine And.intro ?_ ?_
      all_goals first | omega | (simp; omega) | skip
      refine ⟨[(nx, id)], ?_⟩
      simp [hA, key]
      omega
  · intro hn0
    have hi0 : i = 0 := by omega
    have hj0 : j = 0 := by omega
    have hc0 : cs = [] := List.eq_nil_of_length_eq_zero (by omega)
    subst hi0; subst hj0; subst hc0; subst hn0
    refine gen_void (r := .full []) (tb' := ⟨[], [], nx⟩) (el := 3) (s := 1) ?_ trivial
    refine gen_of_aw (rs := [_]) [] [(5, [(6, .w [])])] [] mixed Try.func43 rfl (by kernel_rfl) (by kernel_rfl) (by simp [Try.ntmps43]) rfl ?_
    simp [Try.results43]
    repeat' refine And.intro ?_ ?_
    all_goals first | omega | exact ⟨[], by simp⟩ | simp

theorem take_snoc {α : Type} {l : List α} {k : Nat} (h : k < l.length) : l.take (k + 1) = l.take k ++ [l[k]] := List.take_succ_eq_append_getElem h
theorem sum_take_le (l : List Nat) (k : Nat) : (l.take k).sum ≤ l.sum := by
  have := List.sum_append (l₁ := l.take k) (l₂ := l.drop k)
  rw [List.take_append_drop] at this; omega

set_option maxHeartbeats 1000000 in
theorem grow64 (nx k : Nat) (hb : k ≤ 4000000000000) :
    GenC Try.prog 64 [.p .nil, .p (.int k)] ⟨[], [], nx⟩ (.view nx 0 0 1 none) ⟨[(nx, ⟨9, 1, []⟩)], [], nx + 1⟩ := by
  have w1 : IntKind.i64.wrap (k : Int) = k := wrap64_id (by omega) (by omega)
  by_cases h0 : k = 0
  · subst h0
    refine gen_void (r := .p .nil) (tb' := ⟨[], [], nx⟩) (el := 9) (s := 1) ?_ trivial
    refine gen_of_aw (rs := [_]) [22] [] [] mixed Try.func64 rfl (by kernel_rfl) (by kernel_rfl) (by simp [Try.ntmps64]) rfl ?_
    have z : IntKind.i64.wrap 0 = 0 := wrap64_id (by omega) (by omega)
    simp [Try.results64, z]
    exact ⟨[], by simp⟩
  · have e0 : 0 < k := by omega
    have z : IntKind.i64.wrap 0 = 0 := wrap64_id (by omega) (by omega)
    refine gen_of_aw (rs := [_]) [22] [] [] mixed Try.func64 rfl (by kernel_rfl) (by kernel_rfl) (by simp [Try.ntmps64]) rfl ?_
    simp [Try.results64, w1, z, e0]
    exact ⟨by omega, by omega, [], by simp⟩


set_option maxHeartbeats 1000000 in
theorem grow65 (nx k : Nat) (hb : k ≤ 4000000000000) :
    GenC Try.prog 65 [.p .nil, .p (.int k)] ⟨[], [], nx⟩ (.view nx 0 0 1 none) ⟨[(nx, ⟨3, 1, []⟩)], [], nx + 1⟩ := by
  have w1 : IntKind.i64.wrap (k : Int) = k := wrap64_id (by omega) (by omega)
  by_cases h0 : k = 0
  · subst h0
    refine gen_void (r := .p .nil) (tb' := ⟨[], [], nx⟩) (el := 3) (s := 1) ?_ trivial
    refine gen_of_aw (rs := [_]) [22] [] [] mixed Try.func65 rfl (by kernel_rfl) (by kernel_rfl) (by simp [Try.ntmps65]) rfl ?_
    have z : IntKind.i64.wrap 0 = 0 := wrap64_id (by omega) (by omega)
    simp [Try.results65, z]
    exact ⟨[], by simp⟩
  · have e0 : 0 < k := by omega
    have z : IntKind.i64.wrap 0 = 0 := wrap64_id (by omega) (by omega)
    refine gen_of_aw (rs := [_]) [22] [] [] mixed Try.func65 rfl (by kernel_rfl) (by kernel_rfl) (by simp [Try.ntmps65]) rfl ?_
    simp [Try.results65, w1, z, e0]
    exact ⟨by omega, by omega, [], by simp⟩


set_option maxHeartbeats 1000000 in
theorem concat45 (nx : Nat) (L : List (List PC)) (hw : ∀ l ∈ L, ∀ x ∈ l, x.width = 1) (ht : ∀ l ∈ L, ∀ x ∈ l, noTup x = true) (hb : (L.map List.length).sum ≤ 1000000000000) (hb2 : L.length ≤ 1000000000000) :
    GenC Try.prog 45 [.p (.sl (L.map .sl))] ⟨[], [], nx⟩ (.view nx 0 (L.map List.length).sum 1 none) ⟨[(nx, ⟨9, 1, (L.flatten.flatMap pcs).map .p⟩)], [], nx + 1⟩ := by
  refine gen_of_aw (rs := [_]) [] [] [] mixed Try.func45 rfl (by kernel_rfl) (by kernel_rfl) (by simp [Try.ntmps45]) rfl ?_
  simp
  refine aw_loop0 (fun k : Nat => k ≤ L.length) (fun k => [(0, .p (.sl (L.map .sl))), (2, .p .nil), (9, .p (.sl (L.map .sl))), (10, .p (.int L.length)), (3, .p (.int ((L.map List.length).take k).sum)), (11, .p (.int k))]) (fun k => L.length - k) 0 (by simp) (leN_id (by simp)) ?_
  intro k hk
  by_cases c1 : k < L.length
  · have e1 : decide ((k : Int) < L.length) = true := by simp; omega
    have hs : ((L.map List.length).take (k + 1)).sum = ((L.map List.length).take k).sum + L[k].length := by
      rw [take_snoc (by simpa using c1)]; simp
    have hsle := sum_take_le (L.map List.length) (k + 1)
    have w1 : IntKind.i64.wrap ((((L.map List.length).take k).sum : Int) + (L[k].length : Int)) = (((L.map List.length).take (k + 1)).sum : Int) := by rw [hs]; push_cast; exact wrap64_id (by omega) (by omega)
    have w2 : IntKind.i64.wrap ((k : Int) + 1) = ((k + 1 : Nat) : Int) := by rw [wrap64_id (by omega) (by omega)]; rfl
    have e2 : decide ((((L.map List.length).take (k + 1)).sum : Int) < 0) = false := by simp
    simp [c1, e1, w1, w2, e2]
    refine ⟨k + 1, by omega, by omega, leN_id ?_⟩
    simp
  · have e1 : decide ((k : Int) < L.length) = false := by simp; omega
    have hk' : (L.map List.length).take k = L.map List.length := List.take_of_length_le (by simp; omega)
    simp [c1, e1, hk']
    refine gcall_of0 (grow64 nx (L.map List.length).sum (by omega)) (by simp) trivial trivial rfl ?_
    simp
    refine aw_loop (fun k : Nat => k ≤ L.length)
      (fun k => [(0, .p (.sl (L.map .sl))), (2, .p .nil), (25, .p (.sl (L.map .sl))), (26, .p (.int L.length)), (6, .view nx 0 ((L.map List.length).take k).sum 1 none), (27, .p (.int k))])
      (fun k => ⟨[(nx, ⟨9, 1, ((L.take k).flatten.flatMap pcs).map .p⟩)], [], nx + 1⟩) (fun k => L.length - k) 0 (by simp) _ (AS.le_refl _ _) (leN_id (by simp)) ?_
    clear hk c1 e1 hk' k
    intro k hk
    by_cases c1 : k < L.length
    · have e1 : decide ((k : Int) < L.length) = true := by simp; omega
      have hs : ((L.map List.length).take (k + 1)).sum = ((L.map List.length).take k).sum + L[k].length := by
        rw [take_snoc (by simpa using c1)]; simp
      have hsle := sum_take_le (L.map List.length) (k + 1)
      have w2 : IntKind.i64.wrap ((k : Int) + 1) = ((k + 1 : Nat) : Int) := by rw [wrap64_id (by omega) (by omega)]; rfl
      have hwk := hw L[k] (by simp)
      have htk := ht L[k] (by simp)
      have hfl : (L.take (k + 1)).flatten = (L.take k).flatten ++ L[k] := by rw [take_snoc c1]; simp only [List.flatten_append, List.flatten_cons, List.flatten_nil, List.append_nil]
      have hlen : (((L.take k).flatten.flatMap pcs).map AV.p).length = ((L.map List.length).take k).sum := by
        have hww : ∀ x ∈ (L.take k).flatten, x.width = 1 := fun x hx => by
          obtain ⟨l, hl, hx⟩ := List.mem_flatten.1 hx
          exact hw l (List.mem_of_mem_take hl) x hx
        have := pcsl_len hww
        simp only [List.length_map, this, List.length_flatten, List.map_take, Nat.mul_one]
      have htk' : List.take ((L.map List.length).take k).sum (((L.take k).flatten.flatMap pcs).map AV.p) = ((L.take k).flatten.flatMap pcs).map AV.p := List.take_of_length_le (by omega)
      simp [c1, e1, w2]
      refine ⟨by simpa using Nat.le_of_eq hlen.symm, hwk, htk, by omega, by omega, k + 1, by omega, by omega, leN_of [(nx, nx + 1)] ?_⟩
      rw [hfl, hs, htk']
      simp
    · have e1 : decide ((k : Int) < L.length) = false := by simp; omega
      have hkL : k = L.length := by omega
      subst hkL
      have hk' : (L.map List.length).take L.length = L.map List.length := List.take_of_length_le (by simp)
      simp [c1, e1, Try.results45, hk']
      exact ⟨[], by simp⟩

set_option maxHeartbeats 1000000 in
theorem concat46 (nx : Nat) (L : List (List PC)) (hw : ∀ l ∈ L, ∀ x ∈ l, x.width = 1) (ht : ∀ l ∈ L, ∀ x ∈ l, noTup x = true) (hb : (L.map List.length).sum ≤ 1000000000000) (hb2 : L.length ≤ 1000000000000) :
    GenC Try.prog 46 [.p (.sl (L.map .sl))] ⟨[], [], nx⟩ (.view nx 0 (L.map List.length).sum 1 none) ⟨[(nx, ⟨3, 1, (L.flatten.flatMap pcs).map .p⟩)], [], nx + 1⟩ := by
  refine gen_of_aw (rs := [_]) [] [] [] mixed Try.func46 rfl (by kernel_rfl) (by kernel_rfl) (by simp [Try.ntmps46]) rfl ?_
  simp
  refine aw_loop0 (fun k : Nat => k ≤ L.length) (fun k => [(0, .p (.sl (L.map .sl))), (2, .p .nil), (9, .p (.sl (L.map .sl))), (10, .p (.int L.length)), (3, .p (.int ((L.map List.length).take k).sum)), (11, .p (.int k))]) (fun k => L.length - k) 0 (by simp) (leN_id (by simp)) ?_
  intro k hk
  by_cases c1 : k < L.length
  · have e1 : decide ((k : Int) < L.length) = true := by simp; omega
    have hs : ((L.map List.length).take (k + 1)).sum = ((L.map List.length).take k).sum + L[k].length := by
      rw [take_snoc (by simpa using c1)]; simp
    have hsle := sum_take_le (L.map List.length) (k + 1)
    have w1 : IntKind.i64.wrap ((((L.map List.length).take k).sum : Int) + (L[k].length : Int)) = (((L.map List.length).take (k + 1)).sum : Int) := by rw [hs]; push_cast; exact wrap64_id (by omega) (by omega)
    have w2 : IntKind.i64.wrap ((k : Int) + 1) = ((k + 1 : Nat) : Int) := by rw [wrap64_id (by omega) (by omega)]; rfl
    have e2 : decide ((((L.map List.length).take (k + 1)).sum : Int) < 0) = false := by simp
    simp [c1, e1, w1, w2, e2]
    refine ⟨k + 1, by omega, by omega, leN_id ?_⟩
    simp
  · have e1 : decide ((k : Int) < L.length) = false := by simp; omega
    have hk' : (L.map List.length).take k = L.map List.length := List.take_of_length_le (by simp; omega)
    simp [c1, e1, hk']
    refine gcall_of0 (grow65 nx (L.map List.length).sum (by omega)) (by simp) trivial trivial rfl ?_
    simp
    refine aw_loop (fun k : Nat => k ≤ L.length)
      (fun k => [(0, .p (.sl (L.map .sl))), (2, .p .nil), (25, .p (.sl (L.map .sl))), (26, .p (.int L.length)), (6, .view nx 0 ((L.map List.length).take k).sum 1 none), (27, .p (.int k))])
      (fun k => ⟨[(nx, ⟨3, 1, ((L.take k).flatten.flatMap pcs).map .p⟩)], [], nx + 1⟩) (fun k => L.length - k) 0 (by simp) _ (AS.le_refl _ _) (leN_id (by simp)) ?_
    clear hk c1 e1 hk' k
    intro k hk
    by_cases c1 : k < L.length
    · have e1 : decide ((k : Int) < L.length) = true := by simp; omega
      have hs : ((L.map List.length).take (k + 1)).sum = ((L.map List.length).take k).sum + L[k].length := by
        rw [take_snoc (by simpa using c1)]; simp
      have hsle := sum_take_le (L.map List.length) (k + 1)
      have w2 : IntKind.i64.wrap ((k : Int) + 1) = ((k + 1 : Nat) : Int) := by rw [wrap64_id (by omega) (by omega)]; rfl
      have hwk := hw L[k] (by simp)
      have htk := ht L[k] (by simp)
      have hfl : (L.take (k + 1)).flatten = (L.take k).flatten ++ L[k] := by rw [take_snoc c1]; simp only [List.flatten_append, List.flatten_cons, List.flatten_nil, List.append_nil]
      have hlen : (((L.take k).flatten.flatMap pcs).map AV.p).length = ((L.map List.length).take k).sum := by
        have hww : ∀ x ∈ (L.take k).flatten, x.width = 1 := fun x hx => by
          obtain ⟨l, hl, hx⟩ := List.mem_flatten.1 hx
          exact hw l (List.mem_of_mem_take hl) x hx
        have := pcsl_len hww
        simp only [List.length_map, this, List.length_flatten, List.map_take, Nat.mul_one]
      have htk' : List.take ((L.map List.length).take k).sum (((L.take k).flatten.flatMap pcs).map AV.p) = ((L.take k).flatten.flatMap pcs).map AV.p := List.take_of_length_le (by omega)
      simp [c1, e1, w2]
      refine ⟨by simpa using Nat.le_of_eq hlen.symm, hwk, htk, by omega, by omega, k + 1, by omega, by omega, leN_of [(nx, nx + 1)] ?_⟩
      rw [hfl, hs, htk']
      simp
    · have e1 : decide ((k : Int) < L.length) = false := by simp; omega
      have hkL : k = L.length := by omega
      subst hkL
      have hk' : (L.map List.length).take L.length = L.map List.length := List.take_of_length_le (by simp)
      simp [c1, e1, Try.results46, hk']
      exact ⟨[], by simp⟩

end Go.Av

/-! part N17b -/
namespace Go.Av
open Go.Proofs

theorem can_38 : CanCall Try.prog 38 := ⟨Try.f38, Try.func38, by kernel_rfl, by kernel_rfl⟩

set_option maxHeartbeats 1000000 in
theorem insert38 (nx id : Nat) (hid : id < nx) (cs : List PC) (n i : Nat) (vs : List PC) (hn : cs.length = n * 1) (hi : i ≤ n) (hw : ∀ x ∈ vs, x.width = 1) (ht : ∀ x ∈ vs, noTup x = true) (hb : n ≤ 1000000000000) (hb2 : vs.length ≤ 1000000000000) :
    GenC Try.prog 38 [.view id 0 n 1 none, .p (.int i), .p (.sl vs)] ⟨[(id, ⟨9, 1, cs.map .p⟩)], [], nx⟩
      (.view nx 0 (n + vs.length) 1 none) ⟨[(nx, ⟨9, 1, (cs.take (i * 1) ++ vs.flatMap pcs ++ cs.drop (i * 1)).map .p⟩)], [], nx + 1⟩ := by
  have hne : ¬ id = nx := by omega
  refine gen_split (pre := []) (post := [_, _]) can_38 (fun c h1 h2 h3 => ?_) ?_
  · have hwr : ∀ k : Int, 0 ≤ k → k ≤ 4000000000000 → IntKind.i64.wrap k = k := fun k h1 h2 => wrap64_id (by omega) (by omega)
    refine gen_of_aw (rs := [_]) [] [(11, [(8, .w [])]), (15, [(8, .w [])])] [] mixed Try.func38 rfl (by kernel_rfl) (by kernel_rfl) (by simp [Try.ntmps38]) rfl ?_
    have w1 : IntKind.i64.wrap ((n : Int) + (vs.length : Int)) = (n : Int) + (vs.length : Int) := hwr _ (by omega) (by omega)
    have w2 : IntKind.i64.wrap ((n : Int) + (vs.length : Int) - (i : Int)) = (n : Int) + (vs.length : Int) - (i : Int) := hwr _ (by omega) (by omega)
    have w3 : IntKind.i64.wrap ((i : Int) + (vs.length : Int)) = (i : Int) + (vs.length : Int) := hwr _ (by omega) (by omega)
    have t1 : ((n : Int) + (vs.length : Int)).toNat = n + vs.length := by omega
    have t2 : ((n : Int) + (vs.length : Int) - (i : Int)).toNat = n + vs.length - i := by omega
    have t3 : ((i : Int) + (vs.length : Int)).toNat = i + vs.length := by omega
    have hne2 : ¬ nx = id := by omega
    by_cases c0 : vs.length = 0
    · have : vs = [] := List.eq_nil_of_length_eq_zero c0
      subst this
      simp [Try.results38, hi, h1]
      exact ⟨[(nx, id)], by simp⟩
    · have e0 : (((vs.length : Nat) : Int) == 0) = false := by simpa using c0
      by_cases c1 : i = n
      · subst c1
        have hcs : List.drop i (cs.map AV.p) = [] := List.drop_of_length_le (by simp; omega)
        simp [e0, Try.results38, h1, hne, hne2, hcs]
        refine ⟨by omega, hw, ht, ?_⟩
        rcases Nat.lt_or_ge c (i + vs.length) with h | h
        · exact .inr ⟨h, by omega, by omega, [], by simp⟩
        · exact .inl ⟨h, [(nx, id)], by simp⟩
      · have e1 : ((i : Int) == (n : Int)) = false := by rw [beq_eq_false_iff_ne]; omega
        have hcl : (cs.map AV.p).length = n := by simp; omega
        have hvl : (vs.flatMap pcs).length = vs.length := by have := pcsl_len hw; omega
        have m1 : vs.length.min (n + vs.length - i) = vs.length := Nat.min_eq_left (by omega)
        have m2 : (n - i).min (i + (n + vs.length - i) - (i + vs.length)) = n - i := Nat.min_eq_left (by omega)
        have m3 : List.take vs.length vs = vs := List.take_length
        have hvl' : ((vs.flatMap pcs).map AV.p).length = vs.length := by simpa using hvl
        by_cases c2 : c < n + vs.length
        · have e2 : (decide ((c : Int) < (n : Int) + (vs.length : Int))) = true := by simp; omega
          have key := spl_grow (z := .p (.str [])) hcl hvl' hi
          generalize hA : cs.map AV.p = A at *
          simp [e0, e1, w1, e2, w2, w3, t1, t2, t3, Try.results38, hi, h1, hne, hne2, m1, m2, m3, key]
          repeat' refine And.intro ?_ ?_
          all_goals first | omega | assumption | skip
          exact ⟨[], by simp [hA]; omega⟩
        · have e2 : (decide ((c : Int) < (n : Int) + (vs.length : Int))) = false := by simp; omega
          have m4 : (n + vs.length - i).min (n + vs.length - (i + vs.length)) = n - i := by
            rw [show n + vs.length - (i + vs.length) = n - i by omega]; exact Nat.min_eq_right (by omega)
          have key := spl_room hcl hvl' hi rfl
          generalize hA : cs.map AV.p = A at *
          simp [e0, e1, w1, e2, w2, w3, t1, t2, t3, Try.results38, hi, h1, hne, hne2]
          refine ⟨by omega, by omega, by omega, by omega, ocall_of ovl_59 (.inr rfl) (ob := ⟨9, 1, A⟩) (by simp) rfl (by omega) (by simp [isLst]) ?_⟩
          simp [e0, e1, w1, e2, w2, w3, t1, t2, t3, Try.results38, hi, h1, hne, hne2, m1, m3, m4, key]
          repeat' refine And.intro ?_ ?_
          all_goals first | omega | assumption | (rw [padTo_len]; omega) | skip
          exact ⟨[(nx, id)], by simp [hA]⟩
  · intro hn0
    have hi0 : i = 0 := by omega
    have hc0 : cs = [] := List.eq_nil_of_length_eq_zero (by omega)
    subst hi0; subst hc0; subst hn0
    by_cases c0 : vs.length = 0
    · have : vs = [] := List.eq_nil_of_length_eq_zero c0
      subst this
      refine gen_void (r := .full []) (tb' := ⟨[], [], nx⟩) (el := 9) (s := 1) ?_ trivial
      refine gen_of_aw (rs := [_]) [] [(11, [(8, .w [])]), (15, [(8, .w [])])] [] mixed Try.func38 rfl (by kernel_rfl) (by kernel_rfl) (by simp [Try.ntmps38]) rfl ?_
      simp [Try.results38]
      exact ⟨[], by simp⟩
    · have e0 : (((vs.length : Nat) : Int) == 0) = false := by simpa using c0
      refine gen_of_aw (rs := [_]) [25] [(11, [(8, .w [])]), (15, [(8, .w [])])] [] mixed Try.func38 rfl (by kernel_rfl) (by kernel_rfl) (by simp [Try.ntmps38]) rfl ?_
      simp [e0, Try.results38]
      exact ⟨hw, ht, by omega, by omega, [], by simp⟩

end Go.Av

/-! part N17c -/
namespace Go.Av
open Go.Proofs

theorem can_39 : CanCall Try.prog 39 := ⟨Try.f39, Try.func39, by kernel_rfl, by kernel_rfl⟩

set_option maxHeartbeats 1000000 in
theorem insert39 (nx id : Nat) (hid : id < nx) (cs : List PC) (n i : Nat) (vs : List PC) (hn : cs.length = n * 1) (hi : i ≤ n) (hw : ∀ x ∈ vs, x.width = 1) (ht : ∀ x ∈ vs, noTup x = true) (hb : n ≤ 1000000000000) (hb2 : vs.length ≤ 1000000000000) :
    GenC Try.prog 39 [.view id 0 n 1 none, .p (.int i), .p (.sl vs)] ⟨[(id, ⟨3, 1, cs.map .p⟩)], [], nx⟩
      (.view nx 0 (n + vs.length) 1 none) ⟨[(nx, ⟨3, 1, (cs.take (i * 1) ++ vs.flatMap pcs ++ cs.drop (i * 1)).map .p⟩)], [], nx + 1⟩ := by
  have hne : ¬ id = nx := by omega
  refine gen_split (pre := []) (post := [_, _]) can_39 (fun c h1 h2 h3 => ?_) ?_
  · have hwr : ∀ k : Int, 0 ≤ k → k ≤ 4000000000000 → IntKind.i64.wrap k = k := fun k h1 h2 => wrap64_id (by omega) (by omega)
    refine gen_of_aw (rs := [_]) [] [(11, [(8, .w [])]), (15, [(8, .w [])])] [] mixed Try.func39 rfl (by kernel_rfl) (by kernel_rfl) (by simp [Try.ntmps39]) rfl ?_
    have w1 : IntKind.i64.wrap ((n : Int) + (vs.length : Int)) = (n : Int) + (vs.length : Int) := hwr _ (by omega) (by omega)
    have w2 : IntKind.i64.wrap ((n : Int) + (vs.length : Int) - (i : Int)) = (n : Int) + (vs.length : Int) - (i : Int) := hwr _ (by omega) (by omega)
    have w3 : IntKind.i64.wrap ((i : Int) + (vs.length : Int)) = (i : Int) + (vs.length : Int) := hwr _ (by omega) (by omega)
    have t1 : ((n : Int) + (vs.length : Int)).toNat = n + vs.length := by omega
    have t2 : ((n : Int) + (vs.length : Int) - (i : Int)).toNat = n + vs.length - i := by omega
    have t3 : ((i : Int) + (vs.length : Int)).toNat = i + vs.length := by omega
    have hne2 : ¬ nx = id := by omega
    by_cases c0 : vs.length = 0
    · have : vs = [] := List.eq_nil_of_length_eq_zero c0
      subst this
      simp [Try.results39, hi, h1]
      exact ⟨[(nx, id)], by simp⟩
    · have e0 : (((vs.length : Nat) : Int) == 0) = false := by simpa using c0
      by_cases c1 : i = n
      · subst c1
        have hcs : List.drop i (cs.map AV.p) = [] := List.drop_of_length_le (by simp; omega)
        simp [e0, Try.results39, h1, hne, hne2, hcs]
        refine ⟨by omega, hw, ht, ?_⟩
        rcases Nat.lt_or_ge c (i + vs.length) with h | h
        · exact .inr ⟨h, by omega, by omega, [], by simp⟩
        · exact .inl ⟨h, [(nx, id)], by simp⟩
      · have e1 : ((i : Int) == (n : Int)) = false := by rw [beq_eq_false_iff_ne]; omega
        have hcl : (cs.map AV.p).length = n := by simp; omega
        have hvl : (vs.flatMap pcs).length = vs.length := by have := pcsl_len hw; omega
        have m1 : vs.length.min (n + vs.length - i) = vs.length := Nat.min_eq_left (by omega)
        have m2 : (n - i).min (i + (n + vs.length - i) - (i + vs.length)) = n - i := Nat.min_eq_left (by omega)
        have m3 : List.take vs.length vs = vs := List.take_length
        have hvl' : ((vs.flatMap pcs).map AV.p).length = vs.length := by simpa using hvl
        by_cases c2 : c < n + vs.length
        · have e2 : (decide ((c : Int) < (n : Int) + (vs.length : Int))) = true := by simp; omega
          have key := spl_grow (z := .p (.sc (.int .i64 0))) hcl hvl' hi
          generalize hA : cs.map AV.p = A at *
          simp [e0, e1, w1, e2, w2, w3, t1, t2, t3, Try.results39, hi, h1, hne, hne2, m1, m2, m3, key]
          repeat' refine And.intro ?_ ?_
          all_goals first | omega | assumption | skip
          exact ⟨[], by simp [hA]; omega⟩
        · have e2 : (decide ((c : Int) < (n : Int) + (vs.length : Int))) = false := by simp; omega
          have m4 : (n + vs.length - i).min (n + vs.length - (i + vs.length)) = n - i := by
            rw [show n + vs.length - (i + vs.length) = n - i by omega]; exact Nat.min_eq_right (by omega)
          have key := spl_room hcl hvl' hi rfl
          generalize hA : cs.map AV.p = A at *
          simp [e0, e1, w1, e2, w2, w3, t1, t2, t3, Try.results39, hi, h1, hne, hne2]
          refine ⟨by omega, by omega, by omega, by omega, ocall_of ovl_61 (.inr rfl) (ob := ⟨3, 1, A⟩) (by simp) rfl (by omega) (by simp [isLst]) ?_⟩
          simp [e0, e1, w1, e2, w2, w3, t1, t2, t3, Try.results39, hi, h1, hne, hne2, m1, m3, m4, key]
          repeat' refine And.intro ?_ ?_
          all_goals first | omega | assumption | (rw [padTo_len]; omega) | skip
          exact ⟨[(nx, id)], by simp [hA]⟩
  · intro hn0
    have hi0 : i = 0 := by omega
    have hc0 : cs = [] := List.eq_nil_of_length_eq_zero (by omega)
    subst hi0; subst hc0; subst hn0
    by_cases c0 : vs.length = 0
    · have : vs = [] := List.eq_nil_of_length_eq_zero c0
      subst this
      refine gen_void (r := .full []) (tb' := ⟨[], [], nx⟩) (el := 3) (s := 1) ?_ trivial
      refine gen_of_aw (rs := [_]) [] [(11, [(8, .w [])]), (15, [(8, .w [])])] [] mixed Try.func39 rfl (by kernel_rfl) (by kernel_rfl) (by simp [Try.ntmps39]) rfl ?_
      simp [Try.results39]
      exact ⟨[], by simp⟩
    · have e0 : (((vs.length : Nat) : Int) == 0) = false := by simpa using c0
      refine gen_of_aw (rs := [_]) [25] [(11, [(8, .w [])]), (15, [(8, .w [])])] [] mixed Try.func39 rfl (by kernel_rfl) (by kernel_rfl) (by simp [Try.ntmps39]) rfl ?_
      simp [e0, Try.results39]
      exact ⟨hw, ht, by omega, by omega, [], by simp⟩

end Go.Av

/-! part N17d -/
namespace Go.Av
open Go.Proofs

theorem can_40 : CanCall Try.prog 40 := ⟨Try.f40, Try.func40, by kernel_rfl, by kernel_rfl⟩

set_option maxRecDepth 100000 in
set_option maxHeartbeats 2000000 in
theorem replace40 (nx id : Nat) (hid : id < nx) (cs : List PC) (n i j : Nat) (vs : List PC) (hn : cs.length = n * 1) (hij : i < j) (hj : j ≤ n) (hw : ∀ x ∈ vs, x.width = 1) (ht : ∀ x ∈ vs, noTup x = true) (hb : n ≤ 1000000000000) (hb2 : vs.length ≤ 1000000000000) :
    GenC Try.prog 40 [.view id 0 n 1 none, .p (.int i), .p (.int j), .p (.sl vs)] ⟨[(id, ⟨3, 1, cs.map .p⟩)], [], nx⟩
      (.view nx 0 (i + vs.length + (n - j)) 1 none) ⟨[(nx, ⟨3, 1, (cs.take (i * 1) ++ vs.flatMap pcs ++ cs.drop (j * 1)).map .p⟩)], [], nx + 1⟩ := by
  have hne : ¬ id = nx := by omega
  have hne2 : ¬ nx = id := by omega
  have hcl : (cs.map AV.p).length = n := by simp; omega
  have hvl : (vs.flatMap pcs).length = vs.length := by have := pcsl_len hw; omega
  have hvl' : ((vs.flatMap pcs).map AV.p).length = vs.length := by simpa using hvl
  have m3 : List.take vs.length vs = vs := List.take_length
  refine gen_split (pre := []) (post := [_, _, _]) can_40 (fun c h1 h2 h3 => ?_) (fun h0 => by omega)
  have hwr : ∀ k : Int, 0 ≤ k → k ≤ 4000000000000 → IntKind.i64.wrap k = k := fun k h1 h2 => wrap64_id (by omega) (by omega)
  refine gen_of_aw (rs := [_]) [] [(13, [(9, .w [])]), (18, [(9, .w [])]), (22, [(9, .w [])])] [] mixed Try.func40 rfl (by kernel_rfl) (by kernel_rfl) (by simp [Try.ntmps40]) rfl ?_
  have e0 : ((i : Int) == (j : Int)) = false := by rw [beq_eq_false_iff_ne]; omega
  generalize hA : cs.map AV.p = A at *
  have hVl : ∀ m, AV.lim.lims m ((vs.flatMap pcs).map AV.p) = true := fun m => lims_p
  have hVr : ∀ ρ, AV.ren.rens ρ ((vs.flatMap pcs).map AV.p) = (vs.flatMap pcs).map AV.p := fun ρ => rens_p
  generalize hV : (vs.flatMap pcs).map AV.p = V at *
  by_cases c1 : j = n
  · subst c1
    have hdr : List.drop j A = [] := List.drop_of_length_le (by omega)
    by_cases c2 : i + vs.length < j
    · have e2 : decide ((i : Int) + (vs.length : Int) < (j : Int)) = true := by simp; omega
      have t1 : ((i : Int) + (vs.length : Int)).toNat = i + vs.length := by omega
      simp [e0, e2, t1, Try.results40, hne, hne2, hV]
      repeat' refine And.intro ?_ ?_
      all_goals first | omega | assumption | skip
      refine .inl ?_
      repeat' refine And.intro ?_ ?_
      all_goals first | omega | assumption | (simp; omega) | skip
      refine ⟨[(nx, id)], ?_⟩
      have l1 : (List.take i A ++ V).length = i + vs.length := by simp; omega
      have e4 : ∀ R, List.take (i + vs.length) (List.take i A ++ (V ++ R)) = List.take i A ++ V := fun R => by rw [← List.append_assoc]; exact List.take_left' l1
      simp [hA, hVl, hVr, hdr, e4]
    · have e2 : decide ((i : Int) + (vs.length : Int) < (j : Int)) = false := by simp; omega
      simp [e0, e2, Try.results40, hne, hne2, hV]
      repeat' refine And.intro ?_ ?_
      all_goals first | omega | assumption | skip
      rcases Nat.lt_or_ge c (i + vs.length) with h | h
      · exact .inr ⟨h, by omega, by omega, [], by simp [hA, hVl, hVr, hdr]⟩
      · exact .inl ⟨h, [(nx, id)], by simp [hA, hVl, hVr, hdr]⟩
  · have e1 : ((j : Int) == (n : Int)) = false := by rw [beq_eq_false_iff_ne]; omega
    have w1 : IntKind.i64.wrap ((i : Int) + (vs.length : Int)) = (i : Int) + (vs.length : Int) := hwr _ (by omega) (by omega)
    have w2 : IntKind.i64.wrap ((i : Int) + (vs.length : Int) + ((n - j : Nat) : Int)) = (i : Int) + (vs.length : Int) + ((n - j : Nat) : Int) := hwr _ (by omega) (by omega)
    have w3 : IntKind.i64.wrap ((i : Int) + (vs.length : Int) + ((n - j : Nat) : Int) - (i : Int)) = (i : Int) + (vs.length : Int) + ((n - j : Nat) : Int) - (i : Int) := hwr _ (by omega) (by omega)
    have t1 : ((i : Int) + (vs.length : Int)).toNat = i + vs.length := by omega
    have t2 : ((i : Int) + (vs.length : Int) + ((n - j : Nat) : Int)).toNat = i + vs.length + (n - j) := by omega
    have t3 : ((i : Int) + (vs.length : Int) + ((n - j : Nat) : Int) - (i : Int)).toNat = vs.length + (n - j) := by omega
    rcases Nat.lt_or_ge c (i + vs.length + (n - j)) with h | h
    · have e2 : decide ((c : Int) < (i : Int) + (vs.length : Int) + ((n - j : Nat) : Int)) = true := by simp; omega
      have m1 : vs.length.min (vs.length + (n - j)) = vs.length := Nat.min_eq_left (by omega)
      have m2 : (n - j).min (i + (vs.length + (n - j)) - (i + vs.length)) = n - j := Nat.min_eq_left (by omega)
      simp [e0, e1, e2, w1, w2, w3, t1, t2, t3, Try.results40, hne, hne2, m1, m2, m3, hV]
      repeat' refine And.intro ?_ ?_
      all_goals first | omega | assumption | skip
      refine ⟨[], ?_⟩
      have key := spl_copy2 (Q := List.take i A) (V := V) (S := List.take (n - j) (List.drop j A)) (R := List.replicate (vs.length + (n - j)) (AV.p (.sc (.int .i64 0)))) (i := i) (m := vs.length) (k := n - j) (by simp; omega) hvl' (by simp; omega) (by simp)
      have e4 : List.take (n - j) (List.drop j A) = List.drop j A := List.take_of_length_le (by simp; omega)
      rw [e4] at key
      simp [hA, hVl, hVr, e4, key]
      omega
    · have e2 : decide ((c : Int) < (i : Int) + (vs.length : Int) + ((n - j : Nat) : Int)) = false := by simp; omega
      by_cases c2 : i + vs.length ≤ j
      · have e3 : decide ((i : Int) + (vs.length : Int) ≤ (j : Int)) = true := by simp; omega
        have m1 : vs.length.min (i + vs.length + (n - j) - i) = vs.length := Nat.min_eq_left (by omega)
        have m2 : (n - j).min (i + vs.length + (n - j) - (i + vs.length)) = n - j := Nat.min_eq_left (by omega)
        have p1 : padTo i A = A := padTo_le (by omega)
        have p2 : padTo (i + vs.length) (List.take i A ++ (V ++ List.drop (i + vs.length) A)) = List.take i A ++ (V ++ List.drop (i + vs.length) A) := padTo_le (by simp; omega)
        have key := fun R => spl_shrink (A := A) (V := V) hcl hvl' hj c2 rfl R
        simp [e0, e1, e2, e3, w1, w2, w3, t1, t2, t3, Try.results40, hne, hne2, m1, m2, m3, hV, p1, p2]
        repeat' refine And.intro ?_ ?_
        all_goals first | omega | assumption | skip
        refine ⟨[(nx, id)], ?_⟩
        simp [hA, hVl, hVr, key]
      · have e3 : decide ((i : Int) + (vs.length : Int) ≤ (j : Int)) = false := by simp; omega
        have m1 : vs.length.min (i + vs.length + (n - j) - i) = vs.length := Nat.min_eq_left (by omega)
        have m2 : (n - j).min (i + vs.length + (n - j) - (i + vs.length)) = n - j := Nat.min_eq_left (by omega)
        simp [e0, e1, e2, e3, w1, w2, w3, t1, t2, t3, Try.results40, hne, hne2]
        repeat' refine And.intro ?_ ?_
        all_goals first | omega | assumption | skip
        refine ocall_of ovl_61 (.inl rfl) (ob := ⟨3, 1, A⟩) (by simp) rfl (by omega) (by simp [isLst]) ?_
        have key := spl_roomj (A := A) (V := V) (i := i) (j := j) hcl hvl' (by omega) hj (by omega) rfl
        simp [e0, e1, e2, e3, w1, w2, w3, t1, t2, t3, Try.results40, hne, hne2, m1, m2, m3, hV]
        repeat' refine And.intro ?_ ?_
        all_goals first | omega | assumption | (rw [padTo_len]; omega) | skip
        refine ⟨[(nx, id)], ?_⟩
        simp [hA, hVl, hVr, key]

end Go.Av

/-! part N17e -/
namespace Go.Av
open Go.Proofs

theorem nat_beq {a b : Nat} : ((a : Int) == (b : Int)) = (a == b) := by rw [Bool.eq_iff_iff]; simp; omega

theorem behind41 (l : Bool) (ks : List (List UInt8)) (vs : List Int) : PureC Try.prog 41 [nodeP l ks vs] (.int (if l then 0 else 1)) := by
  refine pure_of_aw (ys := [_]) [] [] [] mixed Try.func41 rfl (by kernel_rfl) (by kernel_rfl) (by simp [Try.ntmps41]) rfl ?_
  cases l <;> simp [Try.results41]

def fmd (l : Bool) (ks : List (List UInt8)) (vs : List Int) : Bool := vs.length == ks.length + (if l then 0 else 1)

theorem formed37 (l : Bool) (ks : List (List UInt8)) (vs : List Int) (hk : ks.length ≤ 1000000000000) : PureC Try.prog 37 [nodeP l ks vs] (.bool (fmd l ks vs)) := by
  refine pure_of_aw (ys := [_]) [] [] [] mixed Try.func37 rfl (by kernel_rfl) (by kernel_rfl) (by simp [Try.ntmps37]) rfl ?_
  simp
  refine call_of (behind41 l ks vs) ?_
  cases l
  · have w : IntKind.i64.wrap ((ks.length : Int) + 1) = ((ks.length + 1 : Nat) : Int) := wrap64_id (by omega) (by omega)
    simp [Try.results37, w, fmd, ← nat_beq]
  · have w : IntKind.i64.wrap (ks.length : Int) = (ks.length : Int) := wrap64_id (by omega) (by omega)
    simp [Try.results37, w, fmd, ← nat_beq]

theorem str_w (ks : List (List UInt8)) : ∀ x ∈ ks.map PC.str, x.width = 1 := by simp
theorem str_t (ks : List (List UInt8)) : ∀ x ∈ ks.map PC.str, noTup x = true := by simp
theorem int_w (vs : List Int) : ∀ x ∈ vs.map PC.int, x.width = 1 := by simp
theorem int_t (vs : List Int) : ∀ x ∈ vs.map PC.int, noTup x = true := by simp
@[simp] theorem pcs_strs (ks : List (List UInt8)) : (ks.map PC.str).flatMap pcs = ks.map PC.str := by induction ks <;> simp_all
@[simp] theorem pcs_ints (vs : List Int) : (vs.map PC.int).flatMap pcs = vs.map PC.int := by induction vs <;> simp_all

set_option maxHeartbeats 1000000 in
theorem copied36 (nx : Nat) (l : Bool) (ks : List (List UInt8)) (vs : List Int) (hk : ks.length ≤ 1000000000000) (hv : vs.length ≤ 1000000000000) :
    GenC Try.prog 36 [.p (nodeP l ks vs)] ⟨[], [], nx⟩ (.agg false [.p (.bool l), .view nx 0 ks.length 1 none, .view (nx + 1) 0 vs.length 1 none])
      ⟨[(nx, ⟨9, 1, (ks.map PC.str).map .p⟩), (nx + 1, ⟨3, 1, (vs.map PC.int).map .p⟩)], [], nx + 2⟩ := by
  have c1 := fun n => clone57 n (ks.map PC.str) (str_w ks) (str_t ks) (by simpa using hk)
  have c2 := fun n => clone58 n (vs.map PC.int) (int_w vs) (int_t vs) (by simpa using hv)
  simp only [List.length_map, pcs_strs, pcs_ints] at c1 c2
  refine gen_of_aw (rs := [_]) [1] [(1, [(1, .r 1), (2, .f [1]), (4, .r 1), (5, .f [1]), (7, .s 1 []), (9, .s 1 [])])] [(1, nx)] mixed Try.func36 rfl (by kernel_rfl) (by kernel_rfl) (by simp [Try.ntmps36]) rfl ?_
  simp
  refine fcall_of0 (c1 _) (by simp) trivial trivial rfl (by simp) ?_
  simp
  refine fcall_of0 (c2 _) (by simp) trivial trivial rfl (by simp) ?_
  simp [Try.results36]
  exact ⟨[(nx, nx + 2), (nx + 1, nx + 3)], by simp; intro a b h; omega⟩
end Go.Av

/-! part N17f -/
namespace Go.Av
open Go.Proofs

@[simp] theorem fl_sc {v : Value} : PC.flat (.sc v) = true := (rfl)
theorem tkS (ks : List (List UInt8)) : List.take ks.length (ks.map (AV.p ∘ PC.str)) = ks.map (AV.p ∘ PC.str) := List.take_of_length_le (by simp)
theorem tkI (vs : List Int) : List.take vs.length (vs.map (AV.p ∘ PC.int)) = vs.map (AV.p ∘ PC.int) := List.take_of_length_le (by simp)

/-- a node whose lists are rows of its own -/
theorem bor_node {bx : List (Nat × Ob)} {l : Bool} {a b n m : Nat} {c d : Option Nat} {K : List (List UInt8)} {V : List Int} (ha : lk a bx = some ⟨9, 1, (K.map PC.str).map .p⟩) (hb : lk b bx = some ⟨3, 1, (V.map PC.int).map .p⟩) (hn : n = K.length) (hm : m = V.length) :
    borF bx 4 (.agg false [.p (.bool l), .view a 0 n 1 c, .view b 0 m 1 d]) (nodeP l K V) := by
  subst hn; subst hm
  simp [borF, all2, ha, hb, tkS, tkI]

theorem copied36p (l : Bool) (ks : List (List UInt8)) (vs : List Int) (hk : ks.length ≤ 1000000000000) (hv : vs.length ≤ 1000000000000) : PureC Try.prog 36 [nodeP l ks vs] (nodeP l ks vs) :=
  pure_of_gen (xs := [_]) (copied36 0 l ks vs hk hv) (bor_node (by simp) (by simp) rfl rfl)

/-- a node with a key more -/
def insN (l : Bool) (ks : List (List UInt8)) (vs : List Int) (i : Nat) (key : List UInt8) (us : List Int) : PC :=
  nodeP l (ks.take i ++ [key] ++ ks.drop i) (vs.take i ++ us ++ vs.drop (if l then i else i + 1))

set_option maxHeartbeats 1000000 in
theorem ninsert16 (l : Bool) (ks : List (List UInt8)) (vs : List Int) (i : Nat) (key : List UInt8) (us : List Int) (hf : fmd l ks vs = true) (hi : i ≤ ks.length) (hk : ks.length ≤ 1000000000) (hv : vs.length ≤ 1000000000) (hu : us.length ≤ 1000000000) :
    PureC Try.prog 16 [nodeP l ks vs, .int i, .str key, .sl (us.map PC.int)] (insN l ks vs i key us) := by
  have hc := fun n => copied36 n l ks vs (by omega) (by omega)
  have e1 : ¬ ks.length < i := by omega
  have hlen : vs.length = ks.length + (if l then 0 else 1) := by simpa [fmd] using hf
  have w1 : IntKind.i64.wrap ((i : Int) + 1) = ((i + 1 : Nat) : Int) := by rw [wrap64_id (by omega) (by omega)]; rfl
  cases l
  · simp at hlen
    refine pure_of_gen (xs := [_, _, _, _]) (r := .agg false [.p (.bool false), .view 0 0 (ks.length + 1) 1 none, .view 1 0 (i + us.length + (vs.length - (i + 1))) 1 none])
      (tb' := ⟨[(0, ⟨9, 1, ((ks.take i ++ [key] ++ ks.drop i).map PC.str).map .p⟩), (1, ⟨3, 1, ((vs.take i ++ us ++ vs.drop (i + 1)).map PC.int).map .p⟩)], [], 2⟩) ?_ (bor_node rfl rfl (by simp; omega) (by simp; omega))
    refine gen_of_aw (rs := [_]) [4] [] [] mixed Try.func16 rfl (by kernel_rfl) (by kernel_rfl) (by simp [Try.ntmps16]) rfl ?_
    simp
    refine gcall_of0 (hc _) (by simp) trivial trivial rfl ?_
    simp
    refine bcall_of0 (formed37 false ks vs (by omega)) (by simp [borF, all2, tkS, tkI]) rfl ?_
    simp [hf, e1]
    refine gcall_of0 (insert38 _ 2 (by omega) (ks.map PC.str) ks.length i [.str key] (by simp) hi (by simp) (by simp) (by omega) (by simp)) (by simp) (by simp [sub1]) trivial rfl ?_
    simp
    refine gcall_of0 (replace40 _ 3 (by omega) (vs.map PC.int) vs.length i (i + 1) (us.map PC.int) (by simp) (by omega) (by omega) (by simp) (by simp) (by omega) (by simp; omega)) (by simp [w1]) (by simp [sub1]) trivial rfl ?_
    simp [Try.results16]
    exact ⟨[(0, 4), (1, 5)], by simp⟩
  · simp at hlen
    refine pure_of_gen (xs := [_, _, _, _]) (r := .agg false [.p (.bool true), .view 0 0 (ks.length + 1) 1 none, .view 1 0 (vs.length + us.length) 1 none])
      (tb' := ⟨[(0, ⟨9, 1, ((ks.take i ++ [key] ++ ks.drop i).map PC.str).map .p⟩), (1, ⟨3, 1, ((vs.take i ++ us ++ vs.drop i).map PC.int).map .p⟩)], [], 2⟩) ?_ (bor_node rfl rfl (by simp; omega) (by simp; omega))
    refine gen_of_aw (rs := [_]) [4] [] [] mixed Try.func16 rfl (by kernel_rfl) (by kernel_rfl) (by simp [Try.ntmps16]) rfl ?_
    simp
    refine gcall_of0 (hc _) (by simp) trivial trivial rfl ?_
    simp
    refine bcall_of0 (formed37 true ks vs (by omega)) (by simp [borF, all2, tkS, tkI]) rfl ?_
    simp [hf, e1]
    refine gcall_of0 (insert38 _ 2 (by omega) (ks.map PC.str) ks.length i [.str key] (by simp) hi (by simp) (by simp) (by omega) (by simp)) (by simp) (by simp [sub1]) trivial rfl ?_
    simp
    refine gcall_of0 (insert39 _ 3 (by omega) (vs.map PC.int) vs.length i (us.map PC.int) (by simp) (by omega) (by simp) (by simp) (by omega) (by simp; omega)) (by simp) (by simp [sub1]) trivial rfl ?_
    simp [Try.results16]
    exact ⟨[(0, 4), (1, 5)], by simp⟩

/-- not there, or no such node -/
theorem ninsert16n (l : Bool) (ks : List (List UInt8)) (vs : List Int) (at_ : Int) (key : List UInt8) (us : List Int) (hf : fmd l ks vs = false ∨ at_ < 0 ∨ (ks.length : Int) < at_) (hk : ks.length ≤ 1000000000) (hv : vs.length ≤ 1000000000) :
    PureC Try.prog 16 [nodeP l ks vs, .int at_, .str key, .sl (us.map PC.int)] (nodeP l ks vs) := by
  have hc := fun n => copied36 n l ks vs (by omega) (by omega)
  refine pure_of_gen (xs := [_, _, _, _]) (r := .agg false [.p (.bool l), .view 0 0 ks.length 1 none, .view 1 0 vs.length 1 none])
    (tb' := ⟨[(0, ⟨9, 1, (ks.map PC.str).map .p⟩), (1, ⟨3, 1, (vs.map PC.int).map .p⟩)], [], 2⟩) ?_ (bor_node rfl rfl rfl rfl)
  refine gen_of_aw (rs := [_]) [4] [] [] mixed Try.func16 rfl (by kernel_rfl) (by kernel_rfl) (by simp [Try.ntmps16]) rfl ?_
  simp
  refine gcall_of0 (hc _) (by simp) trivial trivial rfl ?_
  simp
  refine bcall_of0 (formed37 l ks vs (by omega)) (by simp [borF, all2, tkS, tkI]) rfl ?_
  by_cases f0 : fmd l ks vs = false
  · simp [f0, Try.results16]
    exact ⟨[(0, 2), (1, 3)], by simp⟩
  · have f0' : fmd l ks vs = true := by simpa using f0
    by_cases f1 : at_ < 0
    · simp [f0', f1, Try.results16]
      exact ⟨[(0, 2), (1, 3)], by simp⟩
    · have f2 : (ks.length : Int) < at_ := by
        rcases hf with h | h | h
        · exact absurd h f0
        · exact absurd h f1
        · exact h
      simp [f0', f1, f2, Try.results16]
      exact ⟨[(0, 2), (1, 3)], by simp⟩
end Go.Av
