/- TreeOrder computes true; how its inputs are read. -/
import Derived.Test.YtfonhoahpmjjbaaFg
set_option linter.all false
/-! part W35 -/
namespace Go.Av
open Go.Proofs Go.Tre
set_option maxRecDepth 100000
theorem chk_zero {b : Nat} {S : Sto} {root : Int} {its : Its} (h : SInv b S root its) (hl : its.length ≤ 4000) : checkM S root = 0 := by
  by_cases hr : root = 0
  · unfold checkM; rw [if_pos hr]
  · obtain ⟨_, _, _, _, e, _⟩ := inv_ref h.inv hr hl
    exact e
theorem mem_rput_key {its : Its} {key : Key} {v : Int} {ks : List Key} (h : ∀ x ∈ its, x.1 ∈ ks) : ∀ x ∈ rput its key v, x.1 ∈ ks ++ [key] := fun x hx => by
  rcases mem_rput hx with rfl | hx
  · simp
  · exact List.mem_append_left _ (h x hx)
theorem rdel_ne {its : Its} (ha : Asc its) (key : Key) : ∀ x ∈ rdel its key, x.1 ≠ key := by
  have hp := place_spec its key
  have hle := place_le its key
  have hA := List.pairwise_iff_getElem.1 ha
  have h1 : ∀ x ∈ its.take (place its key), x.1 ≠ key := fun x hx e => by have := hp.1 x hx; rw [e] at this; exact lt_irrefl _ this
  intro x hx e
  unfold rdel at hx
  by_cases hf : found its key = true
  · rw [if_pos hf] at hx
    have hlt := found_lt hf
    have hk : its[place its key].1 = key := by unfold found at hf; rw [List.getElem?_eq_getElem hlt] at hf; simpa using hf
    rcases List.mem_append.1 hx with h | h
    · exact h1 x h e
    · obtain ⟨i, hi, rfl⟩ := List.getElem_of_mem h
      rw [List.length_drop] at hi
      rw [List.getElem_drop] at e
      have := hA (place its key) (place its key + 1 + i) hlt (by omega) (by omega)
      rw [e, hk] at this; exact lt_irrefl _ this
  · rw [if_neg hf] at hx
    rw [← List.take_append_drop (place its key) its] at hx
    rcases List.mem_append.1 hx with h | h
    · exact h1 x h e
    · obtain ⟨i, hi, rfl⟩ := List.getElem_of_mem h
      rw [List.length_drop] at hi
      rw [List.getElem_drop] at e
      have hlt : place its key < its.length := by omega
      have hn := hp.2 hlt
      have hne : its[place its key].1 ≠ key := fun e => hf (by unfold found; rw [List.getElem?_eq_getElem hlt]; simpa using e)
      have hgt : lt key its[place its key].1 := by
        rcases nlt hn with h | h
        · exact absurd h (fun h => hne (by rw [h]))
        · exact h
      cases i with
      | zero => simp only [Nat.add_zero] at e; exact hne e
      | succ i =>
        have := hA (place its key) (place its key + (i + 1)) hlt (by omega) (by omega)
        rw [e] at this; exact lt_asymm hgt this
structure L5 where
  j : Nat
  S : Sto
  root : Int
  its : Its
structure L5Ok (keys : List Key) (y : L5) : Prop where
  j : y.j ≤ keys.length
  c : SInv (1 + 100 * y.j) y.S y.root y.its
  k : ItsOk y.its
  l : y.its.length ≤ y.j
  m : ∀ x ∈ y.its, x.1 ∈ keys.take y.j
structure L6 where
  i : Nat
  S : Sto
  root : Int
  its : Its
  left : List Key
structure L6Ok (n : Nat) (y : L6) : Prop where
  j : y.i + y.left.length = n
  c : SInv (1 + 100 * (n + y.i)) y.S y.root y.its
  k : ItsOk y.its
  l : y.its.length ≤ n
  m : ∀ x ∈ y.its, x.1 ∈ y.left
theorem rem_ex (x : Int) (n : Nat) (h : 0 < n) (hn : n ≤ 1000000) : ∃ k : Nat, k < n ∧ (IntKind.i64.wrap (x.tmod (n : Int) + (n : Int))).tmod (n : Int) = (k : Int) := by
  have h1 : x.tmod (n : Int) < n := Int.tmod_lt_of_pos x (by omega)
  have h2 : -(n : Int) < x.tmod (n : Int) := by
    have := Int.lt_tmod_of_pos x (b := (n : Int)) (by omega)
    omega
  rw [wrap64_id (by omega) (by omega), Int.tmod_eq_emod_of_nonneg (by omega)]
  have h3 := Int.emod_lt_of_pos (x.tmod (n : Int) + (n : Int)) (b := (n : Int)) (by omega)
  have h4 := Int.emod_nonneg (x.tmod (n : Int) + (n : Int)) (b := (n : Int)) (by omega)
  exact ⟨_, by omega, (Int.toNat_of_nonneg h4).symm⟩
theorem cut_mem {left : List Key} {k : Nat} (hk : k < left.length) {its : Its} (h : ∀ x ∈ its, x.1 ∈ left) (hn : ∀ x ∈ its, x.1 ≠ left[k]) : ∀ x ∈ its, x.1 ∈ left.take k ++ left.drop (k + 1) := fun x hx => by
  have h1 := h x hx
  rw [← List.take_append_drop k left, List.drop_eq_getElem_cons hk] at h1
  rcases List.mem_append.1 h1 with h1 | h1
  · exact List.mem_append_left _ h1
  · rcases List.mem_cons.1 h1 with h1 | h1
    · exact absurd h1 (hn x hx)
    · exact List.mem_append_right _ h1

theorem w_take {l : List Key} {k : Nat} : ∀ y : PC, y ∈ List.take k (l.map PC.str) → y.width = 1 := fun y h => by
  obtain ⟨x, _, rfl⟩ := List.mem_map.1 (List.mem_of_mem_take h); rfl
theorem w_drop {l : List Key} {k : Nat} : ∀ y : PC, y ∈ List.drop k (l.map PC.str) → y.width = 1 := fun y h => by
  obtain ⟨x, _, rfl⟩ := List.mem_map.1 (List.mem_of_mem_drop h); rfl
theorem w_tail {l : List Key} : ∀ y : PC, y ∈ (l.map PC.str).tail → y.width = 1 := fun y h => by
  obtain ⟨x, _, rfl⟩ := List.mem_map.1 (List.mem_of_mem_tail h); rfl
set_option maxHeartbeats 4000000 in
theorem law5 (keys : List Key) (order : List Int) : PureC Try.prog 5 [.sl (keys.map PC.str), .sl (order.map PC.int)] (.bool true) := by
  refine pure_of_aw (ys := [_]) [32] [] [] mixed Try.func5 rfl (by kernel_rfl) (by kernel_rfl) (by simp [Try.ntmps5]) rfl ?_
  simp
  refine pcall_of awake8 (by simp) ?_
  by_cases c1 : 60 < keys.length
  · have c1' : (60 : Int) < (keys.length : Int) := by omega
    simp [c1, c1']
    refine pcall_of awake8 (by simp) ?_
    simp [Try.results5]
  have c1' : ¬ (60 : Int) < (keys.length : Int) := by omega
  by_cases c2 : 60 < order.length
  · have c2' : (60 : Int) < (order.length : Int) := by omega
    simp [c1, c1', c2, c2']
    refine pcall_of awake8 (by simp) ?_
    simp [Try.results5]
  have c2' : ¬ (60 : Int) < (order.length : Int) := by omega
  simp [c1, c1', c2, c2']
  refine gcall_of0 (new9 0 1 (by omega) 0) (by simp) (by simp [sub1]) (by simp [sub1]) rfl ?_
  simp [treO]
  refine aw_loop (fun y : L5 => L5Ok keys y)
    (fun y => [(0, .p (.sl (keys.map PC.str))), (1, .p (.sl (order.map PC.int))), (5, .obj 0 0), (6, .obj 1 0), (7, .p (itsP y.its)), (8, .own 4 ((keys.take y.j).map PC.str)), (9, .p (.int y.j))])
    (fun y => ⟨trB 1 0 2 3 y.S y.root, (4, 9, 1) :: stR 2, 5⟩) (fun y => keys.length - y.j) ⟨0, ⟨[], [], 0, 0⟩, 0, []⟩ ⟨by simp, s_zero, ⟨by simp, by simp⟩, by simp, by simp⟩ _
    ((le_ownO 0 0 56 3 ⟨30, 4, [.p .nil, .p .nil, .p (.int 0), .p (.int 0)]⟩ [] (by simp) (by simp)).trans ((le_voidO 0 1 4 1 ⟨30, 4, [.own 2 [], .p .nil, .p (.int 0), .p (.int 0)]⟩ (by simp [Tb.setOb, Tb.addRw]) (by simp)).trans
      (le_own 8 9 1 [] (.inr ⟨rfl, by simp⟩))))
    (leN_of [] (by simp [trB, stB, stR, treO, stoO, thO, Tb.setOb, Tb.addRw, Tb.addOb])) ?_
  rintro ⟨j, S, root, its⟩ ⟨hj, hc, hio, hln, hm⟩
  simp only at hj hc hio hln hm
  have hN := hc.ok.len
  have wj : IntKind.i64.wrap ((j : Int) + 1) = ((j + 1 : Nat) : Int) := by rw [wrap64_id (by omega) (by omega)]; rfl
  have hil : its.length ≤ 100000000 := by have := hc.len; omega
  by_cases cn : j < keys.length
  · have cn' : (j : Int) < (keys.length : Int) := by omega
    obtain ⟨x, hx⟩ : ∃ x, keys[j] = x := ⟨_, rfl⟩
    by_cases k1 : x.length < 1
    · have k1' : (x.length : Int) < 1 := by omega
      have k1n : x = [] := List.length_eq_zero_iff.1 (by omega)
      simp [cn, hx, k1n, trB, stB, stR, treO, stoO, thO, Try.results5]
    have k1' : ¬ (x.length : Int) < 1 := by omega
    have k1n : x ≠ [] := fun h => by rw [h] at k1; simp at k1
    by_cases k2 : 100 < x.length
    · have k2' : (100 : Int) < (x.length : Int) := by omega
      simp [cn, hx, k1', k1n, k2', k2, trB, stB, stR, treO, stoO, thO, Try.results5]
    have k2' : ¬ (100 : Int) < (x.length : Int) := by omega
    have hko : kOk x := ⟨by omega, by omega⟩
    have hput := (put_s hc (by omega) hko (v := j) ⟨by omega, by omega⟩).1
    simp [cn, hx, k1', k1n, k2', k2, trB, stB, stR, treO, stoO, thO]
    refine gcall_of0 (put11 1 0 2 3 5 _ ⟨by omega, ⟨by omega, by omega, by omega, by omega, by omega, by omega⟩, by omega, by omega, by omega⟩ S hc.ok (by omega) root hc.rt x j (by omega)) (by simp) (by simp [trB, stB, stR, treO, stoO, thO, sub1]) (by simp [stR, sub1]) rfl ?_
    simp [cn, hx, trB, stB, stR, treO, stoO, thO]
    refine pcall_of (rput12 its x j hio (by omega)) (by simp) ?_
    have ht : List.take (j + 1) keys = List.take j keys ++ [x] := by rw [List.take_succ_eq_append_getElem cn, hx]
    have ht' : List.take (j + 1) (List.map PC.str keys) = List.take j (List.map PC.str keys) ++ [PC.str x] := by rw [← List.map_take, ht]; simp
    simp [cn, hx, wj, trB, stB, stR, treO, stoO, thO]
    repeat' apply And.intro
    all_goals first | omega | exact w_take | skip
    refine ⟨⟨j + 1, (putT S root x j).s, (putT S root x j).root, rput its x j⟩, ⟨by simp only; omega, hput.up (by simp only; omega), its_put hio hil (by omega), Nat.le_trans (rput_len its x j) (by simp only; omega), ?_⟩, by simp only; omega, leN_of [(2, 5), (3, 6), (4, 7)] (by simp [ht', trB, stB, stR, treO, stoO, thO])⟩
    simp only [ht]; exact mem_rput_key hm
  · have cn' : ¬ (j : Int) < (keys.length : Int) := by omega
    have hje : j = keys.length := by omega
    subst hje
    have hsc : scanM S root [] 1000 = (its, 0) := by rw [scanM_law hc.inv [] 1000 (by omega), rscan_all 1000 (by omega)]
    simp [trB, stB, stR, treO, stoO, thO]
    refine gcall_of0 (scan15 1 0 2 3 5 ⟨by omega, ⟨by omega, by omega, by omega, by omega, by omega, by omega⟩, by omega, by omega, by omega⟩ S (hc.ok.ok (by omega)) root hc.rt [] 1000 _ hsc (by omega)) (by simp) (by simp [trB, stB, stR, treO, stoO, thO, sub1]) (by simp [stR, sub1]) rfl ?_
    simp [trB, stB, stR, treO, stoO, thO]
    refine pcall_of (same16 its its hio hio) (by simp) ?_
    simp [trB, stB, stR, treO, stoO, thO]
    refine aw_loop (fun y : L6 => L6Ok keys.length y)
      (fun y => [(1, .p (.sl (order.map PC.int))), (5, .obj 0 0), (6, .obj 1 0), (8, .own 4 (y.left.map PC.str)), (12, .p (.int y.i))])
      (fun y => ⟨trB 1 0 2 3 y.S y.root, (4, 9, 1) :: stR 2, 5⟩) (fun y => keys.length - y.i) ⟨0, S, root, its, keys⟩ ⟨by simp, by simpa using hc, hio, hln, by simpa using hm⟩ _ (AS.le_refl _ _)
      (leN_of [] (by simp [trB, stB, stR, treO, stoO, thO])) ?_
    rintro ⟨i, S, root, its, left⟩ ⟨hi, hc, hio, hln, hm⟩
    simp only at hi hc hio hln hm
    have hN := hc.ok.len
    by_cases c3 : left = []
    · subst c3
      have hz : its = [] := by
        cases its with
        | nil => rfl
        | cons x l => have := hm x (by simp); simp at this
      subst hz
      have hr := inv_nil hc.inv
      subst hr
      have hcz := count_none hc.inv.wf (inv_zero hc.inv).2
      simp [trB, stB, stR, treO, stoO, thO]
      refine gcall_of0 (root10 1 0 2 3 5 ⟨by omega, ⟨by omega, by omega, by omega, by omega, by omega, by omega⟩, by omega, by omega, by omega⟩ S 0) (by simp) (by simp [trB, stB, stR, treO, stoO, thO, sub1]) (by simp [stR, sub1]) rfl ?_
      simp [trB, stB, stR, treO, stoO, thO]
      refine gcall_of0 (count19 0 2 3 5 ⟨by omega, by omega, by omega, by omega, by omega, by omega⟩ S (hc.ok.ok (by omega))) (by simp) (by simp [trB, stB, stR, treO, stoO, thO, sub1]) (by simp [stR, sub1]) rfl ?_
      simp [hcz, trB, stB, stR, treO, stoO, thO, Try.results5]
    have hl0 : 0 < left.length := List.length_pos_iff.2 c3
    have c3' : (0 : Int) < (left.length : Int) := by omega
    have wi : IntKind.i64.wrap ((i : Int) + 1) = ((i + 1 : Nat) : Int) := by rw [wrap64_id (by omega) (by omega)]; rfl
    obtain ⟨k, hk, hrem⟩ : ∃ k : Nat, k < left.length ∧ (if h : i < order.length then (IntKind.i64.wrap ((order[i]).tmod (left.length : Int) + (left.length : Int))).tmod (left.length : Int) else 0) = (k : Int) := by
      split
      · exact rem_ex _ _ hl0 (by omega)
      · exact ⟨0, hl0, rfl⟩
    have wk : IntKind.i64.wrap ((k : Int) + 1) = ((k + 1 : Nat) : Int) := by rw [wrap64_id (by omega) (by omega)]; rfl
    have hdel := (del_s hc (by omega) left[k]).1
    have hde := (del_s hc (by omega) left[k]).2.1
    have hck := chk_zero hdel (by have := rdel_len its left[k]; omega)
    by_cases c4 : i < order.length
    · rw [dif_pos c4] at hrem
      have hne : ¬ (left.length : Int) = 0 := by omega
      simp [hl0, c4, hne, hrem, hk, trB, stB, stR, treO, stoO, thO]
      refine ⟨c3, ?_⟩
      refine gcall_of0 (delete13 1 0 2 3 5 _ ⟨by omega, ⟨by omega, by omega, by omega, by omega, by omega, by omega⟩, by omega, by omega, by omega⟩ S hc.ok (by omega) root hc.rt left[k]) (by simp) (by simp [trB, stB, stR, treO, stoO, thO, sub1]) (by simp [stR, sub1]) rfl ?_
      have hde' : ((delT S root left[k]).e != 0) = false := by rw [hde]; rfl
      simp [hde', trB, stB, stR, treO, stoO, thO]
      refine gcall_of0 (check18 1 0 5 6 7 ⟨by omega, ⟨by omega, by omega, by omega, by omega, by omega, by omega⟩, by omega, by omega, by omega⟩ _ (hdel.ok.ok (by omega)) _ hdel.rt) (by simp) (by simp [trB, stB, stR, treO, stoO, thO, sub1]) (by simp [stR, sub1]) rfl ?_
      simp [hck, hk, wk, wi, trB, stB, stR, treO, stoO, thO]
      repeat' apply And.intro
      all_goals first | omega | exact w_take | exact w_drop | exact w_tail | skip
      refine ⟨⟨i + 1, (delT S root left[k]).s, (delT S root left[k]).root, rdel its left[k], left.take k ++ left.drop (k + 1)⟩, ⟨by simp; omega, hdel.up (by simp only; omega), its_del hio (by omega), Nat.le_trans (rdel_len its left[k]) (by first | omega | (simp only; omega)), ?_⟩, by first | omega | (simp only; omega), leN_of [(2, 5), (3, 6), (4, 8)] (by simp [trB, stB, stR, treO, stoO, thO])⟩
      have hcm := cut_mem hk (its := rdel its left[k]) (fun x hx => hm x (mem_rdel hx)) (rdel_ne (inv_asc hc.inv) _)
      simpa using hcm
    · rw [dif_neg c4] at hrem
      have hk0 : k = 0 := by omega
      subst hk0
      have w10 : IntKind.i64.wrap 1 = 1 := by decide
      simp [hl0, c4, hk, trB, stB, stR, treO, stoO, thO]
      refine gcall_of0 (delete13 1 0 2 3 5 _ ⟨by omega, ⟨by omega, by omega, by omega, by omega, by omega, by omega⟩, by omega, by omega, by omega⟩ S hc.ok (by omega) root hc.rt left[0]) (by simp) (by simp [trB, stB, stR, treO, stoO, thO, sub1]) (by simp [stR, sub1]) rfl ?_
      have hde' : ((delT S root left[0]).e != 0) = false := by rw [hde]; rfl
      simp [hde', trB, stB, stR, treO, stoO, thO]
      refine gcall_of0 (check18 1 0 5 6 7 ⟨by omega, ⟨by omega, by omega, by omega, by omega, by omega, by omega⟩, by omega, by omega, by omega⟩ _ (hdel.ok.ok (by omega)) _ hdel.rt) (by simp) (by simp [trB, stB, stR, treO, stoO, thO, sub1]) (by simp [stR, sub1]) rfl ?_
      simp [hck, hk, w10, wk, wi, trB, stB, stR, treO, stoO, thO]
      repeat' apply And.intro
      all_goals first | omega | exact w_take | exact w_drop | exact w_tail | skip
      refine ⟨⟨i + 1, (delT S root left[0]).s, (delT S root left[0]).root, rdel its left[0], left.tail⟩, ⟨by simp; omega, hdel.up (by simp only; omega), its_del hio (by omega), Nat.le_trans (rdel_len its left[0]) (by first | omega | (simp only; omega)), ?_⟩, by first | omega | (simp only; omega), leN_of [(2, 5), (3, 6), (4, 8)] (by simp [trB, stB, stR, treO, stoO, thO])⟩
      have hcm := cut_mem hk (its := rdel its left[0]) (fun x hx => hm x (mem_rdel hx)) (rdel_ne (inv_asc hc.inv) _)
      simpa using hcm
end Go.Av

/-! part W37 -/
namespace Go.Av
open Go.Proofs

theorem cellsT49 : Try.prog.cellsOf 49 = 1 := by kernel_rfl
theorem cellsT48 : Try.prog.cellsOf 48 = 1 := by kernel_rfl
def keysS (x : PC) : Prop := ∃ l : List (List UInt8), x = .sl (l.map PC.str)
def intsS (x : PC) : Prop := ∃ l : List Int, x = .sl (l.map PC.int) ∧ ∀ v ∈ l, i64b v
theorem rdKs : RdU Try.prog 48 keysS :=
  (rd_slice Try.underlying48 (by rw [cellsT9]; omega) (rd_string Try.underlying9)).mono fun x ⟨xs, h, _, hv⟩ => by
    obtain ⟨l, rfl⟩ := list_of (f := PC.str) (fun y hy => by obtain ⟨s, e, _⟩ := hv y hy; exact ⟨s, e⟩)
    exact ⟨l, h⟩
theorem ints_of {xs : List PC} (h : ∀ x ∈ xs, ∃ n : Int, x = .int n ∧ i64b n) : ∃ l : List Int, xs = l.map PC.int ∧ ∀ v ∈ l, i64b v := by
  induction xs with
  | nil => exact ⟨[], rfl, by simp⟩
  | cons x xs ih =>
    obtain ⟨l, rfl, hl⟩ := ih fun y hy => h y (by simp [hy])
    obtain ⟨a, rfl, ha⟩ := h x (by simp)
    refine ⟨a :: l, rfl, fun v hv => ?_⟩
    rcases List.mem_cons.1 hv with rfl | hv
    · exact ha
    · exact hl v hv
theorem rdIs : RdU Try.prog 49 intsS :=
  (rd_slice Try.underlying49 (by rw [cellsT3]; omega) (rd_int Try.underlying3)).mono fun x ⟨xs, h, _, hv⟩ => by
    obtain ⟨l, rfl, hl⟩ := ints_of (fun y hy => by obtain ⟨n, e, hw⟩ := hv y hy; exact ⟨n, e, bounds_i64 hw⟩)
    exact ⟨l, h, hl⟩
theorem rd48 : RdV Try.prog 48 keysS :=
  rv_one (by rw [Try.underlying48]; simp) (by rw [Try.underlying48]; simp) rdKs.c (by rintro x ⟨l, rfl⟩ b xs h; cases h)
theorem rd49 : RdV Try.prog 49 intsS :=
  rv_one (by rw [Try.underlying49]; simp) (by rw [Try.underlying49]; simp) rdIs.c (by rintro x ⟨l, rfl, _⟩ b xs h; cases h)
theorem law5n {x y : PC} (hx : keysS x) (hy : intsS y) : PureC Try.prog 5 [x, y] (.bool true) := by
  obtain ⟨l, rfl⟩ := hx
  obtain ⟨a, rfl, _⟩ := hy
  exact law5 l a
end Go.Av
