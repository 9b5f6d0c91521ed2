/- TreeChecks computes true; how its inputs are read. -/
import Derived.Test.YtfonhoahpmjjbaaFg
set_option linter.all false
/-! part W35 -/
namespace Go.Av
open Go.Proofs Go.Tre
set_option maxRecDepth 100000
theorem chk_zero {b : Nat} {S : Sto} {root : Int} {its : Its} (h : SInv b S root its) (hl : its.length ≤ 4000) : checkM S root = 0 := by
  by_cases hr : root = 0
  · unfold checkM; rw [if_pos hr]
  · obtain ⟨_, _, _, _, e, _⟩ := inv_ref h.inv hr hl
    exact e
theorem mem_rput_key {its : Its} {key : Key} {v : Int} {ks : List Key} (h : ∀ x ∈ its, x.1 ∈ ks) : ∀ x ∈ rput its key v, x.1 ∈ ks ++ [key] := fun x hx => by
  rcases mem_rput hx with rfl | hx
  · simp
  · exact List.mem_append_left _ (h x hx)
theorem rdel_ne {its : Its} (ha : Asc its) (key : Key) : ∀ x ∈ rdel its key, x.1 ≠ key := by
  have hp := place_spec its key
  have hle := place_le its key
  have hA := List.pairwise_iff_getElem.1 ha
  have h1 : ∀ x ∈ its.take (place its key), x.1 ≠ key := fun x hx e => by have := hp.1 x hx; rw [e] at this; exact lt_irrefl _ this
  intro x hx e
  unfold rdel at hx
  by_cases hf : found its key = true
  · rw [if_pos hf] at hx
    have hlt := found_lt hf
    have hk : its[place its key].1 = key := by unfold found at hf; rw [List.getElem?_eq_getElem hlt] at hf; simpa using hf
    rcases List.mem_append.1 hx with h | h
    · exact h1 x h e
    · obtain ⟨i, hi, rfl⟩ := List.getElem_of_mem h
      rw [List.length_drop] at hi
      rw [List.getElem_drop] at e
      have := hA (place its key) (place its key + 1 + i) hlt (by omega) (by omega)
      rw [e, hk] at this; exact lt_irrefl _ this
  · rw [if_neg hf] at hx
    rw [← List.take_append_drop (place its key) its] at hx
    rcases List.mem_append.1 hx with h | h
    · exact h1 x h e
    · obtain ⟨i, hi, rfl⟩ := List.getElem_of_mem h
      rw [List.length_drop] at hi
      rw [List.getElem_drop] at e
      have hlt : place its key < its.length := by omega
      have hn := hp.2 hlt
      have hne : its[place its key].1 ≠ key := fun e => hf (by unfold found; rw [List.getElem?_eq_getElem hlt]; simpa using e)
      have hgt : lt key its[place its key].1 := by
        rcases nlt hn with h | h
        · exact absurd h (fun h => hne (by rw [h]))
        · exact h
      cases i with
      | zero => simp only [Nat.add_zero] at e; exact hne e
      | succ i =>
        have := hA (place its key) (place its key + (i + 1)) hlt (by omega) (by omega)
        rw [e] at this; exact lt_asymm hgt this
structure L5 where
  j : Nat
  S : Sto
  root : Int
  its : Its
structure L5Ok (keys : List Key) (y : L5) : Prop where
  j : y.j ≤ keys.length
  c : SInv (1 + 100 * y.j) y.S y.root y.its
  k : ItsOk y.its
  l : y.its.length ≤ y.j
  m : ∀ x ∈ y.its, x.1 ∈ keys.take y.j
structure L6 where
  i : Nat
  S : Sto
  root : Int
  its : Its
  left : List Key
structure L6Ok (n : Nat) (y : L6) : Prop where
  j : y.i + y.left.length = n
  c : SInv (1 + 100 * (n + y.i)) y.S y.root y.its
  k : ItsOk y.its
  l : y.its.length ≤ n
  m : ∀ x ∈ y.its, x.1 ∈ y.left
theorem rem_ex (x : Int) (n : Nat) (h : 0 < n) (hn : n ≤ 1000000) : ∃ k : Nat, k < n ∧ (IntKind.i64.wrap (x.tmod (n : Int) + (n : Int))).tmod (n : Int) = (k : Int) := by
  have h1 : x.tmod (n : Int) < n := Int.tmod_lt_of_pos x (by omega)
  have h2 : -(n : Int) < x.tmod (n : Int) := by
    have := Int.lt_tmod_of_pos x (b := (n : Int)) (by omega)
    omega
  rw [wrap64_id (by omega) (by omega), Int.tmod_eq_emod_of_nonneg (by omega)]
  have h3 := Int.emod_lt_of_pos (x.tmod (n : Int) + (n : Int)) (b := (n : Int)) (by omega)
  have h4 := Int.emod_nonneg (x.tmod (n : Int) + (n : Int)) (b := (n : Int)) (by omega)
  exact ⟨_, by omega, (Int.toNat_of_nonneg h4).symm⟩
theorem cut_mem {left : List Key} {k : Nat} (hk : k < left.length) {its : Its} (h : ∀ x ∈ its, x.1 ∈ left) (hn : ∀ x ∈ its, x.1 ≠ left[k]) : ∀ x ∈ its, x.1 ∈ left.take k ++ left.drop (k + 1) := fun x hx => by
  have h1 := h x hx
  rw [← List.take_append_drop k left, List.drop_eq_getElem_cons hk] at h1
  rcases List.mem_append.1 h1 with h1 | h1
  · exact List.mem_append_left _ h1
  · rcases List.mem_cons.1 h1 with h1 | h1
    · exact absurd h1 (hn x hx)
    · exact List.mem_append_right _ h1

theorem w_take {l : List Key} {k : Nat} : ∀ y : PC, y ∈ List.take k (l.map PC.str) → y.width = 1 := fun y h => by
  obtain ⟨x, _, rfl⟩ := List.mem_map.1 (List.mem_of_mem_take h); rfl
theorem w_drop {l : List Key} {k : Nat} : ∀ y : PC, y ∈ List.drop k (l.map PC.str) → y.width = 1 := fun y h => by
  obtain ⟨x, _, rfl⟩ := List.mem_map.1 (List.mem_of_mem_drop h); rfl
theorem w_tail {l : List Key} : ∀ y : PC, y ∈ (l.map PC.str).tail → y.width = 1 := fun y h => by
  obtain ⟨x, _, rfl⟩ := List.mem_map.1 (List.mem_of_mem_tail h); rfl
set_option maxHeartbeats 4000000 in
theorem law5 (keys : List Key) (order : List Int) : PureC Try.prog 5 [.sl (keys.map PC.str), .sl (order.map PC.int)] (.bool true) := by
  refine pure_of_aw (ys := [_]) [32] [] [] mixed Try.func5 rfl (by kernel_rfl) (by kernel_rfl) (by simp [Try.ntmps5]) rfl ?_
  simp
  refine pcall_of awake8 (by simp) ?_
  by_cases c1 : 60 < keys.length
  · have c1' : (60 : Int) < (keys.length : Int) := by omega
    simp [c1, c1']
    refine pcall_of awake8 (by simp) ?_
    simp [Try.results5]
  have c1' : ¬ (60 : Int) < (keys.length : Int) := by omega
  by_cases c2 : 60 < order.length
  · have c2' : (60 : Int) < (order.length : Int) := by omega
    simp [c1, c1', c2, c2']
    refine pcall_of awake8 (by simp) ?_
    simp [Try.results5]
  have c2' : ¬ (60 : Int) < (order.length : Int) := by omega
  simp [c1, c1', c2, c2']
  refine gcall_of0 (new9 0 1 (by omega) 0) (by simp) (by simp [sub1]) (by simp [sub1]) rfl ?_
  simp [treO]
  refine aw_loop (fun y : L5 => L5Ok keys y)
    (fun y => [(0, .p (.sl (keys.map PC.str))), (1, .p (.sl (order.map PC.int))), (5, .obj 0 0), (6, .obj 1 0), (7, .p (itsP y.its)), (8, .own 4 ((keys.take y.j).map PC.str)), (9, .p (.int y.j))])
    (fun y => ⟨trB 1 0 2 3 y.S y.root, (4, 9, 1) :: stR 2, 5⟩) (fun y => keys.length - y.j) ⟨0, ⟨[], [], 0, 0⟩, 0, []⟩ ⟨by simp, s_zero, ⟨by simp, by simp⟩, by simp, by simp⟩ _
    ((le_ownO 0 0 56 3 ⟨30, 4, [.p .nil, .p .nil, .p (.int 0), .p (.int 0)]⟩ [] (by simp) (by simp)).trans ((le_voidO 0 1 4 1 ⟨30, 4, [.own 2 [], .p .nil, .p (.int 0), .p (.int 0)]⟩ (by simp [Tb.setOb, Tb.addRw]) (by simp)).trans
      (le_own 8 9 1 [] (.inr ⟨rfl, by simp⟩))))
    (leN_of [] (by simp [trB, stB, stR, treO, stoO, thO, Tb.setOb, Tb.addRw, Tb.addOb])) ?_
  rintro ⟨j, S, root, its⟩ ⟨hj, hc, hio, hln, hm⟩
  simp only at hj hc hio hln hm
  have hN := hc.ok.len
  have wj : IntKind.i64.wrap ((j : Int) + 1) = ((j + 1 : Nat) : Int) := by rw [wrap64_id (by omega) (by omega)]; rfl
  have hil : its.length ≤ 100000000 := by have := hc.len; omega
  by_cases cn : j < keys.length
  · have cn' : (j : Int) < (keys.length : Int) := by omega
    obtain ⟨x, hx⟩ : ∃ x, keys[j] = x := ⟨_, rfl⟩
    by_cases k1 : x.length < 1
    · have k1' : (x.length : Int) < 1 := by omega
      have k1n : x = [] := List.length_eq_zero_iff.1 (by omega)
      simp [cn, hx, k1n, trB, stB, stR, treO, stoO, thO, Try.results5]
    have k1' : ¬ (x.length : Int) < 1 := by omega
    have k1n : x ≠ [] := fun h => by rw [h] at k1; simp at k1
    by_cases k2 : 100 < x.length
    · have k2' : (100 : Int) < (x.length : Int) := by omega
      simp [cn, hx, k1', k1n, k2', k2, trB, stB, stR, treO, stoO, thO, Try.results5]
    have k2' : ¬ (100 : Int) < (x.length : Int) := by omega
    have hko : kOk x := ⟨by omega, by omega⟩
    have hput := (put_s hc (by omega) hko (v := j) ⟨by omega, by omega⟩).1
    simp [cn, hx, k1', k1n, k2', k2, trB, stB, stR, treO, stoO, thO]
    refine gcall_of0 (put11 1 0 2 3 5 _ ⟨by omega, ⟨by omega, by omega, by omega, by omega, by omega, by omega⟩, by omega, by omega, by omega⟩ S hc.ok (by omega) root hc.rt x j (by omega)) (by simp) (by simp [trB, stB, stR, treO, stoO, thO, sub1]) (by simp [stR, sub1]) rfl ?_
    simp [cn, hx, trB, stB, stR, treO, stoO, thO]
    refine pcall_of (rput12 its x j hio (by omega)) (by simp) ?_
    have ht : List.take (j + 1) keys = List.take j keys ++ [x] := by rw [List.take_succ_eq_append_getElem cn, hx]
    have ht' : List.take (j + 1) (List.map PC.str keys) = List.take j (List.map PC.str keys) ++ [PC.str x] := by rw [← List.map_take, ht]; simp
    simp [cn, hx, wj, trB, stB, stR, treO, stoO, thO]
    repeat' apply And.intro
    all_goals first | omega | exact w_take | skip
    refine ⟨⟨j + 1, (putT S root x j).s, (putT S root x j).root, rput its x j⟩, ⟨by simp only; omega, hput.up (by simp only; omega), its_put hio hil (by omega), Nat.le_trans (rput_len its x j) (by simp only; omega), ?_⟩, by simp only; omega, leN_of [(2, 5), (3, 6), (4, 7)] (by simp [ht', trB, stB, stR, treO, stoO, thO])⟩
    simp only [ht]; exact mem_rput_key hm
  · have cn' : ¬ (j : Int) < (keys.length : Int) := by omega
    have hje : j = keys.length := by omega
    subst hje
    have hsc : scanM S root [] 1000 = (its, 0) := by rw [scanM_law hc.inv [] 1000 (by omega), rscan_all 1000 (by omega)]
    simp [trB, stB, stR, treO, stoO, thO]
    refine gcall_of0 (scan15 1 0 2 3 5 ⟨by omega, ⟨by omega, by omega, by omega, by omega, by omega, by omega⟩, by omega, by omega, by omega⟩ S (hc.ok.ok (by omega)) root hc.rt [] 1000 _ hsc (by omega)) (by simp) (by simp [trB, stB, stR, treO, stoO, thO, sub1]) (by simp [stR, sub1]) rfl ?_
    simp [trB, stB, stR, treO, stoO, thO]
    refine pcall_of (same16 its its hio hio) (by simp) ?_
    simp [trB, stB, stR, treO, stoO, thO]
    refine aw_loop (fun y : L6 => L6Ok keys.length y)
      (fun y => [(1, .p (.sl (order.map PC.int))), (5, .obj 0 0), (6, .obj 1 0), (8, .own 4 (y.left.map PC.str)), (12, .p (.int y.i))])
      (fun y => ⟨trB 1 0 2 3 y.S y.root, (4, 9, 1) :: stR 2, 5⟩) (fun y => keys.length - y.i) ⟨0, S, root, its, keys⟩ ⟨by simp, by simpa using hc, hio, hln, by simpa using hm⟩ _ (AS.le_refl _ _)
      (leN_of [] (by simp [trB, stB, stR, treO, stoO, thO])) ?_
    rintro ⟨i, S, root, its, left⟩ ⟨hi, hc, hio, hln, hm⟩
    simp only at hi hc hio hln hm
    have hN := hc.ok.len
    by_cases c3 : left = []
    · subst c3
      have hz : its = [] := by
        cases its with
        | nil => rfl
        | cons x l => have := hm x (by simp); simp at this
      subst hz
      have hr := inv_nil hc.inv
      subst hr
      have hcz := count_none hc.inv.wf (inv_zero hc.inv).2
      simp [trB, stB, stR, treO, stoO, thO]
      refine gcall_of0 (root10 1 0 2 3 5 ⟨by omega, ⟨by omega, by omega, by omega, by omega, by omega, by omega⟩, by omega, by omega, by omega⟩ S 0) (by simp) (by simp [trB, stB, stR, treO, stoO, thO, sub1]) (by simp [stR, sub1]) rfl ?_
      simp [trB, stB, stR, treO, stoO, thO]
      refine gcall_of0 (count19 0 2 3 5 ⟨by omega, by omega, by omega, by omega, by omega, by omega⟩ S (hc.ok.ok (by omega))) (by simp) (by simp [trB, stB, stR, treO, stoO, thO, sub1]) (by simp [stR, sub1]) rfl ?_
      simp [hcz, trB, stB, stR, treO, stoO, thO, Try.results5]
    have hl0 : 0 < left.length := List.length_pos_iff.2 c3
    have c3' : (0 : Int) < (left.length : Int) := by omega
    have wi : IntKind.i64.wrap ((i : Int) + 1) = ((i + 1 : Nat) : Int) := by rw [wrap64_id (by omega) (by omega)]; rfl
    obtain ⟨k, hk, hrem⟩ : ∃ k : Nat, k < left.length ∧ (if h : i < order.length then (IntKind.i64.wrap ((order[i]).tmod (left.length : Int) + (left.length : Int))).tmod (left.length : Int) else 0) = (k : Int) := by
      split
      · exact rem_ex _ _ hl0 (by omega)
      · exact ⟨0, hl0, rfl⟩
    have wk : IntKind.i64.wrap ((k : Int) + 1) = ((k + 1 : Nat) : Int) := by rw [wrap64_id (by omega) (by omega)]; rfl
    have hdel := (del_s hc (by omega) left[k]).1
    have hde := (del_s hc (by omega) left[k]).2.1
    have hck := chk_zero hdel (by have := rdel_len its left[k]; omega)
    by_cases c4 : i < order.length
    · rw [dif_pos c4] at hrem
      have hne : ¬ (left.length : Int) = 0 := by omega
      simp [hl0, c4, hne, hrem, hk, trB, stB, stR, treO, stoO, thO]
      refine ⟨c3, ?_⟩
      refine gcall_of0 (delete13 1 0 2 3 5 _ ⟨by omega, ⟨by omega, by omega, by omega, by omega, by omega, by omega⟩, by omega, by omega, by omega⟩ S hc.ok (by omega) root hc.rt left[k]) (by simp) (by simp [trB, stB, stR, treO, stoO, thO, sub1]) (by simp [stR, sub1]) rfl ?_
      have hde' : ((delT S root left[k]).e != 0) = false := by rw [hde]; rfl
      simp [hde', trB, stB, stR, treO, stoO, thO]
      refine gcall_of0 (check18 1 0 5 6 7 ⟨by omega, ⟨by omega, by omega, by omega, by omega, by omega, by omega⟩, by omega, by omega, by omega⟩ _ (hdel.ok.ok (by omega)) _ hdel.rt) (by simp) (by simp [trB, stB, stR, treO, stoO, thO, sub1]) (by simp [stR, sub1]) rfl ?_
      simp [hck, hk, wk, wi, trB, stB, stR, treO, stoO, thO]
      repeat' apply And.intro
      all_goals first | omega | exact w_take | exact w_drop | exact w_tail | skip
      refine ⟨⟨i + 1, (delT S root left[k]).s, (delT S root left[k]).root, rdel its left[k], left.take k ++ left.drop (k + 1)⟩, ⟨by simp; omega, hdel.up (by simp only; omega), its_del hio (by omega), Nat.le_trans (rdel_len its left[k]) (by first | omega | (simp only; omega)), ?_⟩, by first | omega | (simp only; omega), leN_of [(2, 5), (3, 6), (4, 8)] (by simp [trB, stB, stR, treO, stoO, thO])⟩
      have hcm := cut_mem hk (its := rdel its left[k]) (fun x hx => hm x (mem_rdel hx)) (rdel_ne (inv_asc hc.inv) _)
      simpa using hcm
    · rw [dif_neg c4] at hrem
      have hk0 : k = 0 := by omega
      subst hk0
      have w10 : IntKind.i64.wrap 1 = 1 := by decide
      simp [hl0, c4, hk, trB, stB, stR, treO, stoO, thO]
      refine gcall_of0 (delete13 1 0 2 3 5 _ ⟨by omega, ⟨by omega, by omega, by omega, by omega, by omega, by omega⟩, by omega, by omega, by omega⟩ S hc.ok (by omega) root hc.rt left[0]) (by simp) (by simp [trB, stB, stR, treO, stoO, thO, sub1]) (by simp [stR, sub1]) rfl ?_
      have hde' : ((delT S root left[0]).e != 0) = false := by rw [hde]; rfl
      simp [hde', trB, stB, stR, treO, stoO, thO]
      refine gcall_of0 (check18 1 0 5 6 7 ⟨by omega, ⟨by omega, by omega, by omega, by omega, by omega, by omega⟩, by omega, by omega, by omega⟩ _ (hdel.ok.ok (by omega)) _ hdel.rt) (by simp) (by simp [trB, stB, stR, treO, stoO, thO, sub1]) (by simp [stR, sub1]) rfl ?_
      simp [hck, hk, w10, wk, wi, trB, stB, stR, treO, stoO, thO]
      repeat' apply And.intro
      all_goals first | omega | exact w_take | exact w_drop | exact w_tail | skip
      refine ⟨⟨i + 1, (delT S root left[0]).s, (delT S root left[0]).root, rdel its left[0], left.tail⟩, ⟨by simp; omega, hdel.up (by simp only; omega), its_del hio (by omega), Nat.le_trans (rdel_len its left[0]) (by first | omega | (simp only; omega)), ?_⟩, by first | omega | (simp only; omega), leN_of [(2, 5), (3, 6), (4, 8)] (by simp [trB, stB, stR, treO, stoO, thO])⟩
      have hcm := cut_mem hk (its := rdel its left[0]) (fun x hx => hm x (mem_rdel hx)) (rdel_ne (inv_asc hc.inv) _)
      simpa using hcm
end Go.Av

/-! part W36 -/
namespace Go.Av
open Go.Proofs Go.Tre
set_option maxRecDepth 100000
@[reducible] def refP : Option (Int × List Int × Its) → AV
  | none => .agg true [.p (.int 0), .p .nil, .p .nil, .p (.bool false)]
  | some r => .agg true [.p (.int r.1), .p (.sl (r.2.1.map PC.int)), .p (itsP r.2.2), .p (.bool true)]
theorem foldR_len {g : Int → Key → Option Key → Option (Int × List Int × Its)} (hg : ∀ v lo hi r, g v lo hi = some r → r.2.1.length ≤ 5000 ∧ r.2.2.length ≤ 4 * r.2.1.length) :
    ∀ (lo : Key) (ks : List Key) (hi : Option Key) (vs : List Int) (a r : Int × List Int × Its), a.2.1.length ≤ 5000 → a.2.2.length ≤ 4 * a.2.1.length → foldR g lo ks hi vs a = some r → r.2.1.length ≤ 5000 ∧ r.2.2.length ≤ 4 * r.2.1.length
  | lo, k :: ks, hi, v :: vs, a, r, h1, h2, h => by
    simp only [foldR] at h
    split at h
    · cases h
    · rename_i q hq
      split at h
      · cases h
      · rename_i hc
        have := hg _ _ _ _ hq
        exact foldR_len hg _ _ _ _ _ _ (by simp only [List.length_append]; omega) (by simp only [List.length_append]; omega) h
  | lo, [], hi, v :: vs, a, r, h1, h2, h => by
    simp only [foldR] at h
    split at h
    · cases h
    · rename_i q hq
      split at h
      · cases h
      · rename_i hc
        have := hg _ _ _ _ hq
        injection h with h; subst h
        exact ⟨by simp only [List.length_append]; omega, by simp only [List.length_append]; omega⟩
  | lo, ks, hi, [], a, r, h1, h2, h => by
    have : foldR g lo ks hi [] a = some a := by cases ks <;> rfl
    rw [this] at h; injection h with h; subst h; exact ⟨h1, h2⟩
theorem refT_len (S : Sto) : ∀ (f d : Nat) (p : Int) (lo : Key) (hi : Option Key) (r : Int × List Int × Its), refT S f d p lo hi = some r → r.2.1.length ≤ 5000 ∧ r.2.2.length ≤ 4 * r.2.1.length
  | 0, _, _, _, _, _, h => by simp [refT] at h
  | f + 1, d, p, lo, hi, r, h => by
    unfold refT at h
    split at h
    · cases h
    · rename_i n hn
      split at h
      · rename_i hc
        have hr := (rB_iff n).1 hc.1
        have hl := hr.len
        split at h
        · injection h with h; subst h
          exact ⟨by simp, by simp; omega⟩
        · exact foldR_len (fun v lo hi r h => refT_len S f (d + 1) v lo hi r h) _ _ _ _ _ _ (by simp) (by simp) h
      · cases h
theorem refT_dep {S : Sto} {f d : Nat} {p : Int} {lo : Key} {hi : Option Key} {r : Int × List Int × Its} (h : refT S f d p lo hi = some r) : 0 ≤ r.1 ∧ r.1 + 1 ≤ d + f := by
  obtain ⟨h', n, pg, _, _, _, _, h1, _, h2⟩ := refT_tr h
  omega
end Go.Av

/-! part W39 -/
namespace Go.Av
open Go.Proofs Go.Tre
set_option maxRecDepth 100000
def winB (lo : Key) (hi : Option Key) (k : Key) : Bool := !Op.bytesLess k lo && (match hi with | some h => Op.bytesLess k h | none => true)
theorem fitB_all (n : Nd) (lo : Key) (hi : Option Key) : fitB n lo hi = n.ks.all (winB lo hi) := rfl
theorem ids012 : Ids3 0 1 2 3 := ⟨by omega, by omega, by omega, by omega, by omega, by omega⟩
theorem get_mem {S : Sto} {p : Int} {n : Nd} (h : S.get p = some n) : n ∈ S.nd := by
  unfold Sto.get at h; split at h
  · exact List.mem_of_getElem? h
  · cases h
def q0 : Option (Int × List Int × Its) → AV | none => .p (.int 0) | some r => .p (.int r.1)
def q1 : Option (Int × List Int × Its) → AV | none => .p .nil | some r => .p (.sl (r.2.1.map PC.int))
def q2 : Option (Int × List Int × Its) → AV | none => .p .nil | some r => .p (itsP r.2.2)
def q3 : Option (Int × List Int × Its) → AV | none => .p (.bool false) | some _ => .p (.bool true)
theorem refP_q (r : Option (Int × List Int × Its)) : refP r = .agg true [q0 r, q1 r, q2 r, q3 r] := by cases r <;> rfl
theorem right42 {S : Sto} (hS : SOk S) {p : Int} {n : Nd} (h : S.get p = some n) : PureC Try.prog 42 [nodeP n.lf n.ks n.vs] (.bool (rB n)) := by
  have hn := hS.nds n (get_mem h)
  have := right21 n.lf n.ks n.vs (by omega) (fun k hk => by have := hn.2.2 k hk; omega)
  rw [rB_rightB] at this; exact this

set_option maxHeartbeats 20000000 in
theorem tree17 (S : Sto) (hS : SOk S) : ∀ (f d : Nat) (page : Int) (lo : Key) (hi : Option Key), i64b page → d + f = 40 → lo.length ≤ 1000000 → (∀ k, hi = some k → k.length ≤ 1000000) →
    GenC Try.prog 17 [.obj 0 0, .p (.int page), .p (.int d), .p (.str lo), .p (.str (hi.getD [])), .p (.bool hi.isSome)] ⟨stB 0 1 2 S, stR 1, 3⟩ (refP (refT S f d page lo hi)) ⟨stB 0 1 2 S, stR 1, 3⟩ := by
  intro f
  induction f with
  | zero =>
    intro d page lo hi hp hd hlo hhi
    have e : refT S 0 d page lo hi = none := rfl
    have c0 : (39 : Int) < (d : Int) := by omega
    rw [e, refP_q]
    refine gen_of_aw (rs := [_, _, _, _]) [20, 21] [(20, [(2, .r 1), (7, .r 1), (13, .f [1])])] [(1, 3)] mixed Try.func17 rfl (by kernel_rfl) (by kernel_rfl) (by simp [Try.ntmps17]) rfl ?_
    simp [stB, stR, stoO, thO]
    refine gcall_of0 (node41 0 1 2 3 ids012 S hS page hp) (by simp) (by simp [stoO, thO, sub1]) (by simp [sub1]) rfl ?_
    cases hg : S.get page with
    | none =>
      simp [c0, stB, stR, stoO, thO, gN, nd0, Try.results17, q0, q1, q2, q3]
      exact ⟨[], by simp⟩
    | some n =>
      simp [c0, stB, stR, stoO, thO, gN]
      refine pcall_of (right42 hS hg) (by simp) ?_
      cases c : rB n with
      | true =>
        simp [c0, stB, stR, stoO, thO, Try.results17, q0, q1, q2, q3]
        exact ⟨[], by simp⟩
      | false =>
        simp [c0, stB, stR, stoO, thO, Try.results17, q0, q1, q2, q3]
        exact ⟨[], by simp⟩
  | succ f ih =>
    intro d page lo hi hp hd hlo hhi
    have c0 : ¬ (39 : Int) < (d : Int) := by omega
    obtain ⟨RR, hRR⟩ : ∃ RR, RR = refT S (f + 1) d page lo hi := ⟨_, rfl⟩
    rw [← hRR, refP_q]
    unfold refT at hRR
    refine gen_of_aw (rs := [_, _, _, _]) [20, 21] [(20, [(2, .r 1), (7, .r 1), (13, .f [1])])] [(1, 3)] mixed Try.func17 rfl (by kernel_rfl) (by kernel_rfl) (by simp [Try.ntmps17]) rfl ?_
    simp [stB, stR, stoO, thO]
    refine gcall_of0 (node41 0 1 2 3 ids012 S hS page hp) (by simp) (by simp [stoO, thO, sub1]) (by simp [sub1]) rfl ?_
    cases hg : S.get page with
    | none =>
      rw [hg] at hRR
      subst hRR
      simp [c0, stB, stR, stoO, thO, gN, nd0, Try.results17, q0, q1, q2, q3]
      exact ⟨[], by simp⟩
    | some n =>
      rw [hg] at hRR
      simp only at hRR
      have hn := hS.nds n (get_mem hg)
      simp [c0, stB, stR, stoO, thO, gN]
      refine pcall_of (right42 hS hg) (by simp) ?_
      cases c : rB n with
      | false =>
        rw [if_neg (by rw [c]; simp)] at hRR
        subst hRR
        simp [c0, stB, stR, stoO, thO, Try.results17, q0, q1, q2, q3]
        exact ⟨[], by simp⟩
      | true =>
        have hr := (rB_iff n).1 c
        have hvl := hr.form
        have hkl := hr.len
        by_cases c4 : n.lf = true
        · rw [c4] at hvl
          simp only [if_true] at hvl
          by_cases c5 : d = 0
          · subst c5
            have hfw : fewK (0 : Nat) n = 1 := by simp [fewK]
            by_cases c6 : n.ks.length < 1
            · have c6' : ((n.ks.length : Int) < 1) := by omega
              rw [if_neg (by rw [hfw]; omega)] at hRR
              subst hRR
              simp [c6', c4, c0, stB, stR, stoO, thO, Try.results17, q0, q1, q2, q3]
              exact ⟨[], by simp⟩
            have c6' : ¬ ((n.ks.length : Int) < 1) := by omega
            simp [c6', c4, c0, stB, stR, stoO, thO]

            refine aw_loop (fun i : Nat => i ≤ n.ks.length ∧ fitB n lo hi = (n.ks.drop i).all (winB lo hi))
              (fun i => [(0, .obj 0 0), (1, .p (.int page)), (2, .p (.int (0 : Nat))), (3, .p (.str lo)), (4, .p (.str (hi.getD []))), (5, .p (.bool hi.isSome)), (16, .obj 3 0), (19, .p (.int i))])
              (fun _ => ⟨(3, ⟨56, 3, [.p (.bool true), .p (.sl (n.ks.map PC.str)), .p (.sl (n.vs.map PC.int))]⟩) :: stB 0 1 2 S, stR 1, 4⟩) (fun i => n.ks.length - i) 0 ⟨by simp, rfl⟩ _ (AS.le_refl _ _) (leN_id (by simp [stB, stR, stoO, thO])) ?_
            rintro i ⟨g1, g2⟩
            by_cases c7 : i < n.ks.length
            · rw [List.drop_eq_getElem_cons c7, List.all_cons] at g2
              have hkx := hn.2.2 n.ks[i] (List.getElem_mem c7)
              have wi : IntKind.i64.wrap ((i : Int) + 1) = ((i + 1 : Nat) : Int) := by rw [wrap64_id (by omega) (by omega)]; rfl
              simp [c7, stB, stR, stoO, thO]
              refine pcall_of (less_p n.ks[i] lo (by omega) (by omega)) (by simp) ?_
              cases b1 : Op.bytesLess n.ks[i] lo with
              | true =>
                have hf : fitB n lo hi = false := by rw [g2]; simp [winB, b1]
                rw [if_neg (by rw [hf]; simp)] at hRR; subst hRR
                simp [stB, stR, stoO, thO, Try.results17, q0, q1, q2, q3]
                exact ⟨[], by simp⟩
              | false =>
                cases hi with
                | none =>
                  simp [c7, wi, stB, stR, stoO, thO]
                  exact ⟨i + 1, ⟨by omega, by rw [g2]; simp [winB, b1]⟩, by omega, leN_id (by simp [stB, stR, stoO, thO])⟩
                | some h =>
                  have hhx := hhi h rfl
                  simp [c7, stB, stR, stoO, thO]
                  refine pcall_of (less_p n.ks[i] h (by omega) (by omega)) (by simp) ?_
                  cases b2 : Op.bytesLess n.ks[i] h with
                  | false =>
                    have hf : fitB n lo (some h) = false := by rw [g2]; simp [winB, b1, b2]
                    rw [if_neg (by rw [hf]; simp)] at hRR; subst hRR
                    simp [stB, stR, stoO, thO, Try.results17, q0, q1, q2, q3]
                    exact ⟨[], by simp⟩
                  | true =>
                    simp [wi, stB, stR, stoO, thO]
                    exact ⟨i + 1, ⟨by omega, by rw [g2]; simp [winB, b1, b2]⟩, by omega, leN_id (by simp [stB, stR, stoO, thO])⟩
            · have hf : fitB n lo hi = true := by rw [g2, List.drop_eq_nil_of_le (by omega)]; rfl
              have c7' : ¬ (i : Int) < (n.ks.length : Int) := by omega
              rw [if_pos ⟨c, by rw [hfw]; omega, hf⟩] at hRR
              rw [if_pos c4] at hRR
              subst hRR
              simp [c7, stB, stR, stoO, thO]
              refine aw_loop (fun i : Nat => i ≤ n.ks.length)
                (fun i => [(2, .p (.int (0 : Nat))), (16, .obj 3 0), (20, .full [PC.int page]), (21, .own 4 (((n.ks.zip n.vs).take i).map itP)), (22, .p (.int i))])
                (fun _ => ⟨(3, ⟨56, 3, [.p (.bool true), .p (.sl (n.ks.map PC.str)), .p (.sl (n.vs.map PC.int))]⟩) :: stB 0 1 2 S, (4, 69, 2) :: stR 1, 5⟩) (fun i => n.ks.length - i) 0 (by simp) _ (le_own 21 69 2 [] (.inr ⟨rfl, by simp⟩)) (leN_id (by simp [stB, stR, stoO, thO, Tb.addRw])) ?_
              rintro i g1
              by_cases c8 : i < n.ks.length
              · have c8v : i < n.vs.length := by omega
                have wi : IntKind.i64.wrap ((i : Int) + 1) = ((i + 1 : Nat) : Int) := by rw [wrap64_id (by omega) (by omega)]; rfl
                have hz : (n.ks.zip n.vs).take (i + 1) = (n.ks.zip n.vs).take i ++ [(n.ks[i], n.vs[i])] := by
                  rw [List.take_succ_eq_append_getElem (by rw [List.length_zip]; omega), List.getElem_zip]
                have hz' : ((n.ks.zip n.vs).map itP).take (i + 1) = ((n.ks.zip n.vs).map itP).take i ++ [itP (n.ks[i], n.vs[i])] := by rw [← List.map_take, hz, List.map_append, List.map_take]; rfl
                simp [c8, c8v, wi, stB, stR, stoO, thO]
                repeat' apply And.intro
                all_goals first | omega | exact fun x h => (by obtain ⟨y, _, rfl⟩ := List.mem_map.1 (List.mem_of_mem_take h); rfl) | skip
                refine ⟨i + 1, by omega, by omega, leN_of [(4, 5)] (by simp [hz', stB, stR, stoO, thO])⟩
              · have hz : ((n.ks.zip n.vs).map itP).take i = (n.ks.zip n.vs).map itP := List.take_of_length_le (by rw [List.length_map, List.length_zip]; omega)
                simp [c8, hz, stB, stR, stoO, thO, Try.results17, q0, q1, q2, q3, itsP]
                exact ⟨[], by simp⟩
          · have c5' : (0 : Int) < (d : Int) := by omega
            have c5'' : 0 < d := by omega
            have hfw : fewK d n = 2 := by simp [fewK, c5, c4]
            by_cases c6 : n.ks.length < 2
            · have c6' : ((n.ks.length : Int) < 2) := by omega
              rw [if_neg (by rw [hfw]; omega)] at hRR
              subst hRR
              simp [c6', c4, c0, c5', c5'', stB, stR, stoO, thO, Try.results17, q0, q1, q2, q3]
              exact ⟨[], by simp⟩
            have c6' : ¬ ((n.ks.length : Int) < 2) := by omega
            simp [c6', c4, c0, c5', c5'', stB, stR, stoO, thO]

            refine aw_loop (fun i : Nat => i ≤ n.ks.length ∧ fitB n lo hi = (n.ks.drop i).all (winB lo hi))
              (fun i => [(0, .obj 0 0), (1, .p (.int page)), (2, .p (.int d)), (3, .p (.str lo)), (4, .p (.str (hi.getD []))), (5, .p (.bool hi.isSome)), (16, .obj 3 0), (19, .p (.int i))])
              (fun _ => ⟨(3, ⟨56, 3, [.p (.bool true), .p (.sl (n.ks.map PC.str)), .p (.sl (n.vs.map PC.int))]⟩) :: stB 0 1 2 S, stR 1, 4⟩) (fun i => n.ks.length - i) 0 ⟨by simp, rfl⟩ _ (AS.le_refl _ _) (leN_id (by simp [stB, stR, stoO, thO])) ?_
            rintro i ⟨g1, g2⟩
            by_cases c7 : i < n.ks.length
            · rw [List.drop_eq_getElem_cons c7, List.all_cons] at g2
              have hkx := hn.2.2 n.ks[i] (List.getElem_mem c7)
              have wi : IntKind.i64.wrap ((i : Int) + 1) = ((i + 1 : Nat) : Int) := by rw [wrap64_id (by omega) (by omega)]; rfl
              simp [c7, stB, stR, stoO, thO]
              refine pcall_of (less_p n.ks[i] lo (by omega) (by omega)) (by simp) ?_
              cases b1 : Op.bytesLess n.ks[i] lo with
              | true =>
                have hf : fitB n lo hi = false := by rw [g2]; simp [winB, b1]
                rw [if_neg (by rw [hf]; simp)] at hRR; subst hRR
                simp [stB, stR, stoO, thO, Try.results17, q0, q1, q2, q3]
                exact ⟨[], by simp⟩
              | false =>
                cases hi with
                | none =>
                  simp [c7, wi, stB, stR, stoO, thO]
                  exact ⟨i + 1, ⟨by omega, by rw [g2]; simp [winB, b1]⟩, by omega, leN_id (by simp [stB, stR, stoO, thO])⟩
                | some h =>
                  have hhx := hhi h rfl
                  simp [c7, stB, stR, stoO, thO]
                  refine pcall_of (less_p n.ks[i] h (by omega) (by omega)) (by simp) ?_
                  cases b2 : Op.bytesLess n.ks[i] h with
                  | false =>
                    have hf : fitB n lo (some h) = false := by rw [g2]; simp [winB, b1, b2]
                    rw [if_neg (by rw [hf]; simp)] at hRR; subst hRR
                    simp [stB, stR, stoO, thO, Try.results17, q0, q1, q2, q3]
                    exact ⟨[], by simp⟩
                  | true =>
                    simp [wi, stB, stR, stoO, thO]
                    exact ⟨i + 1, ⟨by omega, by rw [g2]; simp [winB, b1, b2]⟩, by omega, leN_id (by simp [stB, stR, stoO, thO])⟩
            · have hf : fitB n lo hi = true := by rw [g2, List.drop_eq_nil_of_le (by omega)]; rfl
              have c7' : ¬ (i : Int) < (n.ks.length : Int) := by omega
              rw [if_pos ⟨c, by rw [hfw]; omega, hf⟩] at hRR
              rw [if_pos c4] at hRR
              subst hRR
              simp [c7, stB, stR, stoO, thO]
              refine aw_loop (fun i : Nat => i ≤ n.ks.length)
                (fun i => [(2, .p (.int d)), (16, .obj 3 0), (20, .full [PC.int page]), (21, .own 4 (((n.ks.zip n.vs).take i).map itP)), (22, .p (.int i))])
                (fun _ => ⟨(3, ⟨56, 3, [.p (.bool true), .p (.sl (n.ks.map PC.str)), .p (.sl (n.vs.map PC.int))]⟩) :: stB 0 1 2 S, (4, 69, 2) :: stR 1, 5⟩) (fun i => n.ks.length - i) 0 (by simp) _ (le_own 21 69 2 [] (.inr ⟨rfl, by simp⟩)) (leN_id (by simp [stB, stR, stoO, thO, Tb.addRw])) ?_
              rintro i g1
              by_cases c8 : i < n.ks.length
              · have c8v : i < n.vs.length := by omega
                have wi : IntKind.i64.wrap ((i : Int) + 1) = ((i + 1 : Nat) : Int) := by rw [wrap64_id (by omega) (by omega)]; rfl
                have hz : (n.ks.zip n.vs).take (i + 1) = (n.ks.zip n.vs).take i ++ [(n.ks[i], n.vs[i])] := by
                  rw [List.take_succ_eq_append_getElem (by rw [List.length_zip]; omega), List.getElem_zip]
                have hz' : ((n.ks.zip n.vs).map itP).take (i + 1) = ((n.ks.zip n.vs).map itP).take i ++ [itP (n.ks[i], n.vs[i])] := by rw [← List.map_take, hz, List.map_append, List.map_take]; rfl
                simp [c8, c8v, wi, stB, stR, stoO, thO]
                repeat' apply And.intro
                all_goals first | omega | exact fun x h => (by obtain ⟨y, _, rfl⟩ := List.mem_map.1 (List.mem_of_mem_take h); rfl) | skip
                refine ⟨i + 1, by omega, by omega, leN_of [(4, 5)] (by simp [hz', stB, stR, stoO, thO])⟩
              · have hz : ((n.ks.zip n.vs).map itP).take i = (n.ks.zip n.vs).map itP := List.take_of_length_le (by rw [List.length_map, List.length_zip]; omega)
                simp [c8, hz, stB, stR, stoO, thO, Try.results17, q0, q1, q2, q3, itsP]
                exact ⟨[], by simp⟩
        · have c4' : n.lf = false := Bool.eq_false_iff.2 c4
          have hfw : fewK d n = 1 := by simp [fewK, c4']
          by_cases c6 : n.ks.length < 1
          · have c6' : ((n.ks.length : Int) < 1) := by omega
            rw [if_neg (by rw [hfw]; omega)] at hRR
            subst hRR
            simp [c6', c4', c0, stB, stR, stoO, thO, Try.results17, q0, q1, q2, q3]
            exact ⟨[], by simp⟩
          have c6' : ¬ ((n.ks.length : Int) < 1) := by omega
          simp [c6', c4', c0, stB, stR, stoO, thO]

          refine aw_loop (fun i : Nat => i ≤ n.ks.length ∧ fitB n lo hi = (n.ks.drop i).all (winB lo hi))
            (fun i => [(0, .obj 0 0), (1, .p (.int page)), (2, .p (.int d)), (3, .p (.str lo)), (4, .p (.str (hi.getD []))), (5, .p (.bool hi.isSome)), (16, .obj 3 0), (19, .p (.int i))])
            (fun _ => ⟨(3, ⟨56, 3, [.p (.bool false), .p (.sl (n.ks.map PC.str)), .p (.sl (n.vs.map PC.int))]⟩) :: stB 0 1 2 S, stR 1, 4⟩) (fun i => n.ks.length - i) 0 ⟨by simp, rfl⟩ _ (AS.le_refl _ _) (leN_id (by simp [stB, stR, stoO, thO])) ?_
          rintro i ⟨g1, g2⟩
          by_cases c7 : i < n.ks.length
          · rw [List.drop_eq_getElem_cons c7, List.all_cons] at g2
            have hkx := hn.2.2 n.ks[i] (List.getElem_mem c7)
            have wi : IntKind.i64.wrap ((i : Int) + 1) = ((i + 1 : Nat) : Int) := by rw [wrap64_id (by omega) (by omega)]; rfl
            simp [c7, stB, stR, stoO, thO]
            refine pcall_of (less_p n.ks[i] lo (by omega) (by omega)) (by simp) ?_
            cases b1 : Op.bytesLess n.ks[i] lo with
            | true =>
              have hf : fitB n lo hi = false := by rw [g2]; simp [winB, b1]
              rw [if_neg (by rw [hf]; simp)] at hRR; subst hRR
              simp [stB, stR, stoO, thO, Try.results17, q0, q1, q2, q3]
              exact ⟨[], by simp⟩
            | false =>
              cases hi with
              | none =>
                simp [c7, wi, stB, stR, stoO, thO]
                exact ⟨i + 1, ⟨by omega, by rw [g2]; simp [winB, b1]⟩, by omega, leN_id (by simp [stB, stR, stoO, thO])⟩
              | some h =>
                have hhx := hhi h rfl
                simp [c7, stB, stR, stoO, thO]
                refine pcall_of (less_p n.ks[i] h (by omega) (by omega)) (by simp) ?_
                cases b2 : Op.bytesLess n.ks[i] h with
                | false =>
                  have hf : fitB n lo (some h) = false := by rw [g2]; simp [winB, b1, b2]
                  rw [if_neg (by rw [hf]; simp)] at hRR; subst hRR
                  simp [stB, stR, stoO, thO, Try.results17, q0, q1, q2, q3]
                  exact ⟨[], by simp⟩
                | true =>
                  simp [wi, stB, stR, stoO, thO]
                  exact ⟨i + 1, ⟨by omega, by rw [g2]; simp [winB, b1, b2]⟩, by omega, leN_id (by simp [stB, stR, stoO, thO])⟩
          · have hf : fitB n lo hi = true := by rw [g2, List.drop_eq_nil_of_le (by omega)]; rfl
            have c7' : ¬ (i : Int) < (n.ks.length : Int) := by omega
            rw [if_pos ⟨c, by rw [hfw]; omega, hf⟩] at hRR
            rw [if_neg c4] at hRR
            simp [c7, stB, stR, stoO, thO]
            rw [c4'] at hvl
            simp only [Bool.false_eq_true, if_false] at hvl
            refine aw_loop (fun y : Nat × (Int × List Int × Its) => y.1 ≤ n.vs.length ∧ (if y.1 = n.vs.length then RR = some y.2 else RR = foldR (refT S f (d + 1)) (loAt lo n.ks y.1) (n.ks.drop y.1) hi (n.vs.drop y.1) y.2) ∧ y.2.2.1.length ≤ 5000 ∧ y.2.2.2.length ≤ 4 * y.2.2.1.length)
              (fun y => [(0, .obj 0 0), (2, .p (.int d)), (3, .p (.str lo)), (4, .p (.str (hi.getD []))), (5, .p (.bool hi.isSome)), (16, .obj 3 0), (20, .own 4 (y.2.2.1.map PC.int)), (21, .own 5 (y.2.2.2.map itP)), (23, .p (.int y.2.1)), (24, .p (.int y.1))])
              (fun _ => ⟨(3, ⟨56, 3, [.p (.bool false), .p (.sl (n.ks.map PC.str)), .p (.sl (n.vs.map PC.int))]⟩) :: stB 0 1 2 S, (5, 69, 2) :: (4, 3, 1) :: stR 1, 6⟩) (fun y => n.vs.length - y.1) (0, (-1, [page], [])) ⟨by simp, by rw [if_neg (by omega)]; simpa [loAt] using hRR, by simp, by simp⟩ _ ((le_own 20 3 1 [PC.int page] (.inl (by simp))).trans (le_own 21 69 2 [] (.inr ⟨rfl, by simp⟩))) (leN_id (by simp [stB, stR, stoO, thO, Tb.addRw])) ?_
            rintro ⟨i, a⟩ ⟨g1, g2, g3, g4⟩
            simp only at g1 g2 g3 g4
            have wi : IntKind.i64.wrap ((i : Int) + 1) = ((i + 1 : Nat) : Int) := by rw [wrap64_id (by omega) (by omega)]; rfl
            have w11 : IntKind.i64.wrap 1 = 1 := by decide
            have wd : IntKind.i64.wrap ((d : Int) + 1) = ((d + 1 : Nat) : Int) := by rw [wrap64_id (by omega) (by omega)]; rfl
            by_cases c8 : i < n.vs.length
            · rw [if_neg (by omega), List.drop_eq_getElem_cons c8] at g2
              have hvv := hr.vals n.vs[i] (List.getElem_mem c8)
              rcases (by omega : i < n.ks.length ∨ i = n.ks.length) with hik | hik
              · rw [List.drop_eq_getElem_cons hik] at g2
                simp only [foldR] at g2
                rcases Nat.eq_zero_or_pos i with h0 | h0
                · subst h0
                  have hz : (0 : Nat) < n.vs.length := c8
                  have hl0 : loAt lo n.ks 0 = lo := rfl
                  rw [hl0] at g2
                  cases hq : refT S f (d + 1) n.vs[0] lo (some n.ks[0]) with
                  | none =>
                    rw [hq] at g2
                    simp only at g2
                    subst g2
                    have hc := ih (d + 1) n.vs[0] lo (some n.ks[0]) ⟨by have := hvv.1; omega, by have := hvv.2; omega⟩ (by omega) hlo (fun k e => by injection e with e; subst e; exact (hn.2.2 _ (List.getElem_mem hik)))
                    rw [hq] at hc
                    simp [hik, hz, wd, w11, stB, stR, stoO, thO]
                    refine rcall_of [0, 1, 2] hc (by simp) (by simp) (by simp [stB, stR, stoO, thO, sub1]) (by simp [stB, stR, stoO, thO, sub1]) ?_
                    simp [hik, hz, wd, w11, stB, stR, stoO, thO, refP, Try.results17, q0, q1, q2, q3]
                    exact ⟨[], by simp⟩
                  | some r =>
                    rw [hq] at g2
                    simp only at g2
                    have hrl := refT_len S f (d + 1) _ _ _ r hq
                    have hc := ih (d + 1) n.vs[0] lo (some n.ks[0]) ⟨by have := hvv.1; omega, by have := hvv.2; omega⟩ (by omega) hlo (fun k e => by injection e with e; subst e; exact (hn.2.2 _ (List.getElem_mem hik)))
                    rw [hq] at hc
                    simp [hik, hz, wd, w11, stB, stR, stoO, thO]
                    refine rcall_of [0, 1, 2] hc (by simp) (by simp) (by simp [stB, stR, stoO, thO, sub1]) (by simp [stB, stR, stoO, thO, sub1]) ?_
                    by_cases d1 : 0 ≤ a.1 ∧ r.1 ≠ a.1
                    · rw [if_pos (.inl d1)] at g2
                      subst g2
                      have d2 : (r.1 != a.1) = true := by simpa using d1.2
                      simp [hik, hz, wd, w11, d1.1, d2, stB, stR, stoO, thO, refP, Try.results17, q0, q1, q2, q3]
                      exact ⟨[], by simp⟩
                    · by_cases d3 : 5000 < a.2.1.length + r.2.1.length
                      · rw [if_pos (.inr d3)] at g2
                        subst g2
                        have d3' : (5000 : Int) < (a.2.1.length : Int) + (r.2.1.length : Int) := by omega
                        have w5 : IntKind.i64.wrap ((a.2.1.length : Int) + (r.2.1.length : Int)) = (a.2.1.length : Int) + (r.2.1.length : Int) := wrap64_id (by omega) (by omega)
                        by_cases d4 : 0 ≤ a.1
                        · have d2 : (r.1 != a.1) = false := by have := fun h => d1 ⟨d4, h⟩; simpa using Classical.not_not.1 this
                          simp [hik, hz, wd, w11, d4, d2, d3', w5, stB, stR, stoO, thO, refP, Try.results17, q0, q1, q2, q3]
                          exact ⟨[], by simp⟩
                        · simp [hik, hz, wd, w11, d4, d3', w5, stB, stR, stoO, thO, refP, Try.results17, q0, q1, q2, q3]
                          exact ⟨[], by simp⟩
                      · rw [if_neg (by rintro (h | h); exact d1 h; exact d3 h)] at g2
                        have d3' : ¬ (5000 : Int) < (a.2.1.length : Int) + (r.2.1.length : Int) := by omega
                        have w5 : IntKind.i64.wrap ((a.2.1.length : Int) + (r.2.1.length : Int)) = (a.2.1.length : Int) + (r.2.1.length : Int) := wrap64_id (by omega) (by omega)
                        by_cases d4 : 0 ≤ a.1
                        · have d2 : (r.1 != a.1) = false := by have := fun h => d1 ⟨d4, h⟩; simpa using Classical.not_not.1 this
                          simp [hik, hz, wd, w11, d4, d2, d3', w5, wi, stB, stR, stoO, thO, refP]
                          repeat' apply And.intro
                          all_goals first | omega | (intro y k v _ e; subst e; rfl) | skip
                          refine ⟨1, r.1, a.2.1 ++ r.2.1, a.2.2 ++ r.2.2, ⟨by omega, ?_, by simp only [List.length_append]; omega, by simp only [List.length_append]; omega⟩, by omega, leN_of [(4, 6), (5, 7)] (by simp [w11, stB, stR, stoO, thO])⟩
                          rw [if_neg (by omega), g2]; simp [loAt, List.getD_eq_getElem?_getD, hik]
                        · simp [hik, hz, wd, w11, d4, d3', w5, wi, stB, stR, stoO, thO, refP]
                          repeat' apply And.intro
                          all_goals first | omega | (intro y k v _ e; subst e; rfl) | skip
                          refine ⟨1, r.1, a.2.1 ++ r.2.1, a.2.2 ++ r.2.2, ⟨by omega, ?_, by simp only [List.length_append]; omega, by simp only [List.length_append]; omega⟩, by omega, leN_of [(4, 6), (5, 7)] (by simp [w11, stB, stR, stoO, thO])⟩
                          rw [if_neg (by omega), g2]; simp [loAt, List.getD_eq_getElem?_getD, hik]
                · have wm : IntKind.i64.wrap ((i : Int) - 1) = ((i - 1 : Nat) : Int) := by rw [wrap64_id (by omega) (by omega)]; omega
                  have hi1 : i - 1 < n.ks.length := by omega
                  have hlo' : loAt lo n.ks i = n.ks[i - 1] := by
                    obtain ⟨j, rfl⟩ : ∃ j, i = j + 1 := ⟨i - 1, by omega⟩
                    simp only [loAt, List.getD_eq_getElem?_getD]; rw [List.getElem?_eq_getElem (by omega)]; rfl
                  rw [hlo'] at g2
                  cases hq : refT S f (d + 1) n.vs[i] n.ks[i - 1] (some n.ks[i]) with
                  | none =>
                    rw [hq] at g2
                    simp only at g2
                    subst g2
                    have hc := ih (d + 1) n.vs[i] n.ks[i - 1] (some n.ks[i]) ⟨by have := hvv.1; omega, by have := hvv.2; omega⟩ (by omega) (hn.2.2 _ (List.getElem_mem hi1)) (fun k e => by injection e with e; subst e; exact (hn.2.2 _ (List.getElem_mem hik)))
                    rw [hq] at hc
                    simp [hik, h0, c8, wm, hi1, wd, stB, stR, stoO, thO]
                    refine rcall_of [0, 1, 2] hc (by simp) (by simp) (by simp [stB, stR, stoO, thO, sub1]) (by simp [stB, stR, stoO, thO, sub1]) ?_
                    simp [hik, h0, c8, wm, hi1, wd, stB, stR, stoO, thO, refP, Try.results17, q0, q1, q2, q3]
                    exact ⟨[], by simp⟩
                  | some r =>
                    rw [hq] at g2
                    simp only at g2
                    have hrl := refT_len S f (d + 1) _ _ _ r hq
                    have hc := ih (d + 1) n.vs[i] n.ks[i - 1] (some n.ks[i]) ⟨by have := hvv.1; omega, by have := hvv.2; omega⟩ (by omega) (hn.2.2 _ (List.getElem_mem hi1)) (fun k e => by injection e with e; subst e; exact (hn.2.2 _ (List.getElem_mem hik)))
                    rw [hq] at hc
                    simp [hik, h0, c8, wm, hi1, wd, stB, stR, stoO, thO]
                    refine rcall_of [0, 1, 2] hc (by simp) (by simp) (by simp [stB, stR, stoO, thO, sub1]) (by simp [stB, stR, stoO, thO, sub1]) ?_
                    by_cases d1 : 0 ≤ a.1 ∧ r.1 ≠ a.1
                    · rw [if_pos (.inl d1)] at g2
                      subst g2
                      have d2 : (r.1 != a.1) = true := by simpa using d1.2
                      simp [hik, h0, c8, wm, hi1, wd, d1.1, d2, stB, stR, stoO, thO, refP, Try.results17, q0, q1, q2, q3]
                      exact ⟨[], by simp⟩
                    · by_cases d3 : 5000 < a.2.1.length + r.2.1.length
                      · rw [if_pos (.inr d3)] at g2
                        subst g2
                        have d3' : (5000 : Int) < (a.2.1.length : Int) + (r.2.1.length : Int) := by omega
                        have w5 : IntKind.i64.wrap ((a.2.1.length : Int) + (r.2.1.length : Int)) = (a.2.1.length : Int) + (r.2.1.length : Int) := wrap64_id (by omega) (by omega)
                        by_cases d4 : 0 ≤ a.1
                        · have d2 : (r.1 != a.1) = false := by have := fun h => d1 ⟨d4, h⟩; simpa using Classical.not_not.1 this
                          simp [hik, h0, c8, wm, hi1, wd, d4, d2, d3', w5, stB, stR, stoO, thO, refP, Try.results17, q0, q1, q2, q3]
                          exact ⟨[], by simp⟩
                        · simp [hik, h0, c8, wm, hi1, wd, d4, d3', w5, stB, stR, stoO, thO, refP, Try.results17, q0, q1, q2, q3]
                          exact ⟨[], by simp⟩
                      · rw [if_neg (by rintro (h | h); exact d1 h; exact d3 h)] at g2
                        have d3' : ¬ (5000 : Int) < (a.2.1.length : Int) + (r.2.1.length : Int) := by omega
                        have w5 : IntKind.i64.wrap ((a.2.1.length : Int) + (r.2.1.length : Int)) = (a.2.1.length : Int) + (r.2.1.length : Int) := wrap64_id (by omega) (by omega)
                        by_cases d4 : 0 ≤ a.1
                        · have d2 : (r.1 != a.1) = false := by have := fun h => d1 ⟨d4, h⟩; simpa using Classical.not_not.1 this
                          simp [hik, h0, c8, wm, hi1, wd, d4, d2, d3', w5, wi, stB, stR, stoO, thO, refP]
                          repeat' apply And.intro
                          all_goals first | omega | (intro y k v _ e; subst e; rfl) | skip
                          refine ⟨i + 1, r.1, a.2.1 ++ r.2.1, a.2.2 ++ r.2.2, ⟨by omega, ?_, by simp only [List.length_append]; omega, by simp only [List.length_append]; omega⟩, by omega, leN_of [(4, 6), (5, 7)] (by simp [w11, stB, stR, stoO, thO])⟩
                          rw [if_neg (by omega), g2]; simp [loAt, List.getD_eq_getElem?_getD, hik]
                        · simp [hik, h0, c8, wm, hi1, wd, d4, d3', w5, wi, stB, stR, stoO, thO, refP]
                          repeat' apply And.intro
                          all_goals first | omega | (intro y k v _ e; subst e; rfl) | skip
                          refine ⟨i + 1, r.1, a.2.1 ++ r.2.1, a.2.2 ++ r.2.2, ⟨by omega, ?_, by simp only [List.length_append]; omega, by simp only [List.length_append]; omega⟩, by omega, leN_of [(4, 6), (5, 7)] (by simp [w11, stB, stR, stoO, thO])⟩
                          rw [if_neg (by omega), g2]; simp [loAt, List.getD_eq_getElem?_getD, hik]
              · have hdr : n.ks.drop i = [] := by rw [hik, List.drop_length]
                rw [hdr] at g2
                simp only [foldR] at g2
                have h0 : 0 < i := by have := hr.inner c4'; omega
                have wm : IntKind.i64.wrap ((i : Int) - 1) = ((i - 1 : Nat) : Int) := by rw [wrap64_id (by omega) (by omega)]; omega
                have hi1 : i - 1 < n.ks.length := by omega
                have hlo' : loAt lo n.ks i = n.ks[i - 1] := by
                  obtain ⟨j, rfl⟩ : ∃ j, i = j + 1 := ⟨i - 1, by omega⟩
                  simp only [loAt, List.getD_eq_getElem?_getD]; rw [List.getElem?_eq_getElem (by omega)]; rfl
                have hik' : ¬ (i : Int) < (n.ks.length : Int) := by omega
                rw [hlo'] at g2
                cases hq : refT S f (d + 1) n.vs[i] n.ks[i - 1] hi with
                | none =>
                  rw [hq] at g2
                  simp only at g2
                  subst g2
                  have hc := ih (d + 1) n.vs[i] n.ks[i - 1] hi ⟨by have := hvv.1; omega, by have := hvv.2; omega⟩ (by omega) (hn.2.2 _ (List.getElem_mem hi1)) hhi
                  rw [hq] at hc
                  simp [hik', h0, c8, wm, hi1, wd, stB, stR, stoO, thO]
                  refine rcall_of [0, 1, 2] hc (by simp) (by simp) (by simp [stB, stR, stoO, thO, sub1]) (by simp [stB, stR, stoO, thO, sub1]) ?_
                  simp [hik', h0, c8, wm, hi1, wd, stB, stR, stoO, thO, refP, Try.results17, q0, q1, q2, q3]
                  exact ⟨[], by simp⟩
                | some r =>
                  rw [hq] at g2
                  simp only at g2
                  have hrl := refT_len S f (d + 1) _ _ _ r hq
                  have hc := ih (d + 1) n.vs[i] n.ks[i - 1] hi ⟨by have := hvv.1; omega, by have := hvv.2; omega⟩ (by omega) (hn.2.2 _ (List.getElem_mem hi1)) hhi
                  rw [hq] at hc
                  simp [hik', h0, c8, wm, hi1, wd, stB, stR, stoO, thO]
                  refine rcall_of [0, 1, 2] hc (by simp) (by simp) (by simp [stB, stR, stoO, thO, sub1]) (by simp [stB, stR, stoO, thO, sub1]) ?_
                  by_cases d1 : 0 ≤ a.1 ∧ r.1 ≠ a.1
                  · rw [if_pos (.inl d1)] at g2
                    subst g2
                    have d2 : (r.1 != a.1) = true := by simpa using d1.2
                    simp [hik', h0, c8, wm, hi1, wd, d1.1, d2, stB, stR, stoO, thO, refP, Try.results17, q0, q1, q2, q3]
                    exact ⟨[], by simp⟩
                  · by_cases d3 : 5000 < a.2.1.length + r.2.1.length
                    · rw [if_pos (.inr d3)] at g2
                      subst g2
                      have d3' : (5000 : Int) < (a.2.1.length : Int) + (r.2.1.length : Int) := by omega
                      have w5 : IntKind.i64.wrap ((a.2.1.length : Int) + (r.2.1.length : Int)) = (a.2.1.length : Int) + (r.2.1.length : Int) := wrap64_id (by omega) (by omega)
                      by_cases d4 : 0 ≤ a.1
                      · have d2 : (r.1 != a.1) = false := by have := fun h => d1 ⟨d4, h⟩; simpa using Classical.not_not.1 this
                        simp [hik', h0, c8, wm, hi1, wd, d4, d2, d3', w5, stB, stR, stoO, thO, refP, Try.results17, q0, q1, q2, q3]
                        exact ⟨[], by simp⟩
                      · simp [hik', h0, c8, wm, hi1, wd, d4, d3', w5, stB, stR, stoO, thO, refP, Try.results17, q0, q1, q2, q3]
                        exact ⟨[], by simp⟩
                    · rw [if_neg (by rintro (h | h); exact d1 h; exact d3 h)] at g2
                      have d3' : ¬ (5000 : Int) < (a.2.1.length : Int) + (r.2.1.length : Int) := by omega
                      have w5 : IntKind.i64.wrap ((a.2.1.length : Int) + (r.2.1.length : Int)) = (a.2.1.length : Int) + (r.2.1.length : Int) := wrap64_id (by omega) (by omega)
                      by_cases d4 : 0 ≤ a.1
                      · have d2 : (r.1 != a.1) = false := by have := fun h => d1 ⟨d4, h⟩; simpa using Classical.not_not.1 this
                        simp [hik', h0, c8, wm, hi1, wd, d4, d2, d3', w5, wi, stB, stR, stoO, thO, refP]
                        repeat' apply And.intro
                        all_goals first | omega | (intro y k v _ e; subst e; rfl) | skip
                        refine ⟨i + 1, r.1, a.2.1 ++ r.2.1, a.2.2 ++ r.2.2, ⟨by omega, ?_, by simp only [List.length_append]; omega, by simp only [List.length_append]; omega⟩, by omega, leN_of [(4, 6), (5, 7)] (by simp [w11, stB, stR, stoO, thO])⟩
                        rw [if_pos (by omega), g2]
                      · simp [hik', h0, c8, wm, hi1, wd, d4, d3', w5, wi, stB, stR, stoO, thO, refP]
                        repeat' apply And.intro
                        all_goals first | omega | (intro y k v _ e; subst e; rfl) | skip
                        refine ⟨i + 1, r.1, a.2.1 ++ r.2.1, a.2.2 ++ r.2.2, ⟨by omega, ?_, by simp only [List.length_append]; omega, by simp only [List.length_append]; omega⟩, by omega, leN_of [(4, 6), (5, 7)] (by simp [w11, stB, stR, stoO, thO])⟩
                        rw [if_pos (by omega), g2]
            · rw [if_pos (by omega)] at g2
              subst g2
              simp [c8, stB, stR, stoO, thO, Try.results17, q0, q1, q2, q3, itsP]
              exact ⟨[], by simp⟩
end Go.Av

/-! part W42 -/
namespace Go.Av
open Go.Proofs Go.Tre
set_option maxRecDepth 100000
theorem ids4b : Ids4 1 0 2 3 4 := ⟨by omega, ⟨by omega, by omega, by omega, by omega, by omega, by omega⟩, by omega, by omega, by omega⟩
set_option maxHeartbeats 4000000 in
theorem whole26 {b : Nat} {S : Sto} {root : Int} {its : Its} (hc : SInv b S root its) (hio : ItsOk its) (hb : b ≤ 100000000) (hl : its.length ≤ 4000) :
    GenC Try.prog 26 [.obj 0 0, .obj 1 0, .p (itsP its)] ⟨trB 1 0 2 3 S root, stR 2, 4⟩ (.p (.bool true)) ⟨trB 1 0 2 3 S root, stR 2, 4⟩ := by
  have hS := hc.ok.ok (by omega)
  refine gen_of_awT (rs := [_]) [] [] [] [(6, (.one 0 (.one 1 (.one 2 (.one 3 (.br 4 (.br 5 (.one 6 (.one 7 (.one 8 (.one 9 (.one 10 (.one 11 (.one 12 (.one 13 (.one 14 .lf))))))))) .lf) .lf))))))] mixed Try.func26 rfl (by kernel_rfl) (by kernel_rfl) (by simp [Try.ntmps26]) rfl ?_
  by_cases cr : root = 0
  · subst cr
    obtain ⟨hz, hno⟩ := inv_zero hc.inv
    subst hz
    have hpg : pagesG S 0 = ([], 0) := by simp [pagesG]
    have hck : checkM S 0 = 0 := by simp [checkM]
    have hcz := count_none hc.inv.wf hno
    simp
    refine gcall_of0 (pages27 1 0 2 3 4 ids4b S hS 0 hc.rt [] hpg (by simp)) (by simp) (by simp [trB, stB, stR, treO, stoO, thO, sub1]) (by simp [sub1]) rfl ?_
    simp [trB, stB, stR, treO, stoO, thO]
    refine gcall_of0 (check18 1 0 2 3 4 ids4b S hS 0 hc.rt) (by simp) (by simp [trB, stB, stR, treO, stoO, thO, sub1]) (by simp [sub1]) rfl ?_
    simp [hck, trB, stB, stR, treO, stoO, thO]
    refine gcall_of0 (root10 1 0 2 3 4 ids4b S 0) (by simp) (by simp [trB, stB, stR, treO, stoO, thO, sub1]) (by simp [sub1]) rfl ?_
    simp [trB, stB, stR, treO, stoO, thO]
    refine gcall_of0 (count19 0 2 3 4 ids4b.i3 S hS) (by simp) (by simp [trB, stB, stR, treO, stoO, thO, sub1]) (by simp [sub1]) rfl ?_
    simp [hcz, trB, stB, stR, treO, stoO, thO, Try.results26]
    exact ⟨[], by simp⟩
  · obtain ⟨h, pg, e1, e2, e3, e4, e5, e6, e7⟩ := inv_ref hc.inv cr hl
    have cr' : (root == 0) = false := by simpa using cr
    have ht := tree17 S hS 40 0 root [] none hc.rt (by omega) (by simp) (by simp)
    rw [e1] at ht
    have hon : onceB (root :: pg) = true := by simpa [onceB] using e4
    have ho := once21 (root :: pg) (by simp only [List.length_cons]; omega)
    rw [hon] at ho
    simp
    refine gcall_of0 (pages27 1 0 2 3 4 ids4b S hS root hc.rt (root :: pg) e2 (by simp only [List.length_cons]; omega)) (by simp) (by simp [trB, stB, stR, treO, stoO, thO, sub1]) (by simp [sub1]) rfl ?_
    simp [trB, stB, stR, treO, stoO, thO]
    refine gcall_of0 (check18 1 0 2 3 4 ids4b S hS root hc.rt) (by simp) (by simp [trB, stB, stR, treO, stoO, thO, sub1]) (by simp [sub1]) rfl ?_
    simp [e3, trB, stB, stR, treO, stoO, thO]
    refine gcall_of0 (root10 1 0 2 3 4 ids4b S root) (by simp) (by simp [trB, stB, stR, treO, stoO, thO, sub1]) (by simp [sub1]) rfl ?_
    simp [cr', trB, stB, stR, treO, stoO, thO]
    refine gcall_of0 (root10 1 0 2 3 4 ids4b S root) (by simp) (by simp [trB, stB, stR, treO, stoO, thO, sub1]) (by simp [sub1]) rfl ?_
    simp [trB, stB, stR, treO, stoO, thO]
    refine rcall_of [0, 2, 3] ht (by simp) (by simp) (by simp [trB, stB, stR, treO, stoO, thO, sub1]) (by simp [trB, stB, stR, treO, stoO, thO, sub1]) ?_
    simp [trB, stB, stR, treO, stoO, thO, refP]
    refine pcall_of (same16 its its hio hio) (by simp) ?_
    simp [trB, stB, stR, treO, stoO, thO]
    refine gcall_of0 (count19 0 2 3 4 ids4b.i3 S hS) (by simp) (by simp [trB, stB, stR, treO, stoO, thO, sub1]) (by simp [sub1]) rfl ?_
    simp [e5, trB, stB, stR, treO, stoO, thO]
    refine pcall_of ho (by simp) ?_
    simp [trB, stB, stR, treO, stoO, thO]
    obtain ⟨L, hL⟩ : ∃ L, L = root :: pg := ⟨_, rfl⟩
    have hm : PC.int root :: List.map PC.int pg = L.map PC.int := by rw [hL]; rfl
    have hLl : L.length ≤ 4000 := by rw [hL]; simp only [List.length_cons]; omega
    simp only [hm]
    refine aw_loop (fun i : Nat => i ≤ L.length) (fun i => [(7, .p (.sl (L.map PC.int))), (10, .p (.sl (L.map PC.int))), (13, .p (.int i))])
      (fun _ => ⟨trB 1 0 2 3 S root, stR 2, 4⟩) (fun i => L.length - i) 0 (by simp) _ (AS.le_refl _ _) (leN_of [] (by simp [trB, stB, stR, treO, stoO, thO])) ?_
    intro i hi
    by_cases ci : i < L.length
    · have wi : IntKind.i64.wrap ((i : Int) + 1) = ((i + 1 : Nat) : Int) := by rw [wrap64_id (by omega) (by omega)]; rfl
      simp [ci, wi, trB, stB, stR, treO, stoO, thO]
      exact ⟨i + 1, by omega, by omega, leN_of [] (by simp [trB, stB, stR, treO, stoO, thO])⟩
    · simp [ci, trB, stB, stR, treO, stoO, thO, Try.results26]
      exact ⟨[], by simp⟩
end Go.Av

/-! part W37 -/
namespace Go.Av
open Go.Proofs

theorem cellsT49 : Try.prog.cellsOf 49 = 1 := by kernel_rfl
theorem cellsT48 : Try.prog.cellsOf 48 = 1 := by kernel_rfl
def keysS (x : PC) : Prop := ∃ l : List (List UInt8), x = .sl (l.map PC.str)
def intsS (x : PC) : Prop := ∃ l : List Int, x = .sl (l.map PC.int) ∧ ∀ v ∈ l, i64b v
theorem rdKs : RdU Try.prog 48 keysS :=
  (rd_slice Try.underlying48 (by rw [cellsT9]; omega) (rd_string Try.underlying9)).mono fun x ⟨xs, h, _, hv⟩ => by
    obtain ⟨l, rfl⟩ := list_of (f := PC.str) (fun y hy => by obtain ⟨s, e, _⟩ := hv y hy; exact ⟨s, e⟩)
    exact ⟨l, h⟩
theorem ints_of {xs : List PC} (h : ∀ x ∈ xs, ∃ n : Int, x = .int n ∧ i64b n) : ∃ l : List Int, xs = l.map PC.int ∧ ∀ v ∈ l, i64b v := by
  induction xs with
  | nil => exact ⟨[], rfl, by simp⟩
  | cons x xs ih =>
    obtain ⟨l, rfl, hl⟩ := ih fun y hy => h y (by simp [hy])
    obtain ⟨a, rfl, ha⟩ := h x (by simp)
    refine ⟨a :: l, rfl, fun v hv => ?_⟩
    rcases List.mem_cons.1 hv with rfl | hv
    · exact ha
    · exact hl v hv
theorem rdIs : RdU Try.prog 49 intsS :=
  (rd_slice Try.underlying49 (by rw [cellsT3]; omega) (rd_int Try.underlying3)).mono fun x ⟨xs, h, _, hv⟩ => by
    obtain ⟨l, rfl, hl⟩ := ints_of (fun y hy => by obtain ⟨n, e, hw⟩ := hv y hy; exact ⟨n, e, bounds_i64 hw⟩)
    exact ⟨l, h, hl⟩
theorem rd48 : RdV Try.prog 48 keysS :=
  rv_one (by rw [Try.underlying48]; simp) (by rw [Try.underlying48]; simp) rdKs.c (by rintro x ⟨l, rfl⟩ b xs h; cases h)
theorem rd49 : RdV Try.prog 49 intsS :=
  rv_one (by rw [Try.underlying49]; simp) (by rw [Try.underlying49]; simp) rdIs.c (by rintro x ⟨l, rfl, _⟩ b xs h; cases h)
theorem law5n {x y : PC} (hx : keysS x) (hy : intsS y) : PureC Try.prog 5 [x, y] (.bool true) := by
  obtain ⟨l, rfl⟩ := hx
  obtain ⟨a, rfl, _⟩ := hy
  exact law5 l a
end Go.Av

/-! part W47 -/
namespace Go.Av
open Go.Proofs Go.Tre
set_option maxRecDepth 100000
theorem foldK_code {S : Sto} {g : Int → Key → Option Key → Ck → Ck × Int} (hg : ∀ v lo hi c, (g v lo hi c).2 = 0 ∨ (g v lo hi c).2 = 10 ∨ (g v lo hi c).2 = 33) :
    ∀ (lo : Key) (ks : List Key) (hi : Option Key) (vs : List Int) (c : Ck), (foldK g lo ks hi vs c).2 = 0 ∨ (foldK g lo ks hi vs c).2 = 10 ∨ (foldK g lo ks hi vs c).2 = 33
  | lo, k :: ks, hi, v :: vs, c => by
    simp only [foldK]
    split
    · exact foldK_code (S := S) hg _ _ _ _ _
    · exact hg _ _ _ _
  | lo, [], hi, v :: vs, c => by
    simp only [foldK]
    exact hg _ _ _ _
  | lo, ks, hi, [], c => by
    have : foldK g lo ks hi [] c = (c, 0) := by cases ks <;> rfl
    rw [this]; exact .inl rfl
theorem node_code (S : Sto) : ∀ (f d : Nat) (p : Int) (lo : Key) (hi : Option Key) (c : Ck), (nodeM S f d p lo hi c).2 = 0 ∨ (nodeM S f d p lo hi c).2 = 10 ∨ (nodeM S f d p lo hi c).2 = 33
  | 0, _, _, _, _, _ => .inr (.inl rfl)
  | f + 1, d, p, lo, hi, c => by
    unfold nodeM
    split
    · exact .inr (.inl rfl)
    · split
      · split
        · split
          · split
            · exact .inr (.inl rfl)
            · exact .inl rfl
          · exact foldK_code (S := S) (fun v lo hi c => node_code S f (d + 1) v lo hi c) _ _ _ _ _
        · exact .inr (.inl rfl)
      · rcases tload_cases S p with ⟨h, _⟩ | ⟨_, h | h⟩
        · rename_i h2 _; exact absurd h (by first | exact h2 | assumption)
        · exact .inr (.inl h)
        · exact .inr (.inr h)
theorem check_code (S : Sto) (root : Int) : checkM S root = 0 ∨ checkM S root = 10 ∨ checkM S root = 33 := by
  unfold checkM
  split
  · exact .inl rfl
  · exact node_code S _ _ _ _ _ _
theorem chk_ref {S : Sto} {root : Int} (hr : root ≠ 0) (hN : S.nd.length ≤ 4000) (h : checkM S root = 0) (key : Key) :
    ∃ r, refT S 40 0 root [] none = some r ∧ r.2.1.Nodup ∧ getM S root key = ((rget r.2.2 key).1, (rget r.2.2 key).2, 0) := by
  unfold checkM at h
  rw [if_neg hr] at h
  obtain ⟨h', n, its, pg, e1, e2, e3, e4, e5, e6, e7, e8⟩ := chk_tr h (by simp)
  simp only [List.nil_append] at e7
  have hl : (root :: pg).length ≤ S.nd.length := nodup_bound S.N e7 fun q hq => by
    rcases List.mem_cons.1 hq with rfl | hq
    · exact get_bound e1
    · obtain ⟨m, hm⟩ := Option.isSome_iff_exists.1 (has_ex e4 q hq)
      exact get_bound hm
  simp only [List.length_cons] at hl
  have ht := tr_refT (d := 0) (f := 40) e1 e2 e3 e4 e5 (by omega)
  refine ⟨_, ht, e7, ?_⟩
  unfold getM
  obtain ⟨l, x, hP, hw, hgx⟩ := way_law (f := 40) [] e1 e2 e4 (by omega) (win_all key)
  rw [hw]
  simp only [if_true, List.nil_append, List.getLast?_append, List.getLast?_singleton, Option.some_or, hgx]
theorem ref_chk {S : Sto} {root : Int} {r : Int × List Int × Its} (h : refT S 40 0 root [] none = some r) (hn : r.2.1.Nodup) : checkM S root = 0 := by
  obtain ⟨h', n, pg, e1, e2, e3, e4, e5, e6, e7⟩ := refT_tr h
  unfold checkM
  split
  · rfl
  · rw [e6] at hn
    rw [tr_chk (d := 0) (f := 40) ⟨[], -1⟩ e1 e2 e3 e4 (by omega) (.inl (by simp)) (by simpa using hn)]
theorem kids_keys {R : Rel} (hR : ∀ v lo hi its pg, R v lo hi its pg → ∀ x ∈ its, kOk x.1) : ∀ {lo : Key} {ks : List Key} {hi : Option Key} {vs : List Int} {its : Its} {pg : List Int}, Go.Tre.Kids R lo ks hi vs its pg → ∀ x ∈ its, kOk x.1
  | _, [], _, [], _, _, h => by simp [Go.Tre.Kids] at h
  | _, [], _, [v], _, _, h => hR _ _ _ _ _ h
  | _, [], _, v :: w :: vs, _, _, h => by simp [Go.Tre.Kids] at h
  | _, k :: ks, _, [], _, _, h => by simp [Go.Tre.Kids] at h
  | _, k :: ks, _, v :: vs, _, _, h => by
    obtain ⟨i1, p1, i2, p2, h1, h2, rfl, rfl⟩ := h
    intro p hp
    rcases List.mem_append.1 hp with hp | hp
    · exact hR _ _ _ _ _ h1 p hp
    · exact kids_keys hR h2 p hp
theorem has_keys {S : Sto} : ∀ {h : Nat} {n : Nd} {lo : Key} {hi : Option Key} {its : Its} {pg : List Int}, Has S h n lo hi its pg → ∀ x ∈ its, kOk x.1
  | 0, n, lo, hi, its, pg, ⟨_, h2, _, h4, _⟩ => by
    subst h4
    intro x hx
    exact h2.keys _ (List.of_mem_zip hx).1
  | h + 1, n, lo, hi, its, pg, ⟨_, _, _, h4⟩ => kids_keys (fun v lo hi its pg hr => by
      obtain ⟨m, pg', e1, e2, e3, e4, rfl⟩ := hr
      exact has_keys e4) h4
theorem ref_its {S : Sto} {root : Int} {r : Int × List Int × Its} (h : refT S 40 0 root [] none = some r) : ItsOk r.2.2 := by
  obtain ⟨h', n, pg, e1, e2, e3, e4, e5, e6, e7⟩ := refT_tr h
  have hl := refT_len S 40 0 root [] none r h
  exact ⟨by omega, fun x hx => by have := (has_keys e4 x hx).2; omega⟩
theorem ref_len {S : Sto} {root : Int} {r : Int × List Int × Its} (h : refT S 40 0 root [] none = some r) : r.2.1.length ≤ 5000 ∧ r.2.2.length ≤ 4 * r.2.1.length := refT_len S 40 0 root [] none r h
end Go.Av

/-! part W48 -/
namespace Go.Av
open Go.Proofs Go.Tre
set_option maxRecDepth 100000
/-- the store of the nodes -/
def stoN (l : List Nd) : Sto := ⟨l, List.replicate l.length true, 0, 0⟩
theorem stoN_app (l : List Nd) (n : Nd) : (stoN l).app n = stoN (l ++ [n]) := by
  simp [stoN, Go.Tre.Sto.app, List.replicate_succ']
@[simp] theorem stoN_nd {l : List Nd} : (stoN l).nd = l := (rfl)
@[simp] theorem stoN_sv {l : List Nd} : (stoN l).sv = 0 := (rfl)
@[simp] theorem stoN_fl {l : List Nd} : (stoN l).fl = 0 := (rfl)
@[simp] theorem stoN_th {l : List Nd} : (stoN l).th.length = l.length := by simp [stoN]
theorem stoN0 : (stoN []).th = [] := rfl
theorem stoN_ok {l : List Nd} (hl : l.length ≤ 12) (h : ∀ n ∈ l, n.ks.length ≤ 10 ∧ n.vs.length ≤ 10 ∧ ∀ k ∈ n.ks, k.length ≤ 300) : SOkN 12 (stoN l) :=
  ⟨by simp [Sto.Wf], hl, fun n hn => ⟨by have := (h n hn).1; omega, by have := (h n hn).2.1; omega, fun k hk => by have := (h n hn).2.2 k hk; omega⟩, by simp⟩
theorem ids3c : Ids4 3 0 1 2 4 := ⟨by omega, ⟨by omega, by omega, by omega, by omega, by omega, by omega⟩, by omega, by omega, by omega⟩
theorem ids3d : Ids4 6 0 4 5 7 := ⟨by omega, ⟨by omega, by omega, by omega, by omega, by omega, by omega⟩, by omega, by omega, by omega⟩
set_option maxHeartbeats 8000000 in
theorem law6 (nodes : List Nd) (root : Int) (key : Key) (hroot : i64b root) : PureC Try.prog 6 [.sl (nodes.map ndP), .int root, .str key] (.bool true) := by
  refine pure_of_aw (ys := [_]) [35] [(14, [(7, .w [])])] [] mixed Try.func6 rfl (by kernel_rfl) (by kernel_rfl) (by simp [Try.ntmps6]) rfl ?_
  simp
  refine pcall_of awake8 (by simp) ?_
  by_cases c1 : 12 < nodes.length
  · have c1' : (12 : Int) < (nodes.length : Int) := by omega
    simp [c1, c1']
    refine pcall_of awake8 (by simp) ?_
    simp [Try.results6]
  have c1' : ¬ (12 : Int) < (nodes.length : Int) := by omega
  by_cases c2 : 300 < key.length
  · have c2' : (300 : Int) < (key.length : Int) := by omega
    simp [c1, c1', c2, c2']
    refine pcall_of awake8 (by simp) ?_
    simp [Try.results6]
  have c2' : ¬ (300 : Int) < (key.length : Int) := by omega
  simp [c1, c1', c2, c2']
  refine aw_loop (fun i : Nat => i ≤ nodes.length ∧ ∀ n ∈ nodes.take i, n.ks.length ≤ 10 ∧ n.vs.length ≤ 10 ∧ ∀ k ∈ n.ks, k.length ≤ 300)
    (fun i => [(0, .p (.sl (nodes.map ndP))), (1, .p (.int root)), (2, .p (.str key)), (7, .obj 0 0), (8, .p (.int i))])
    (fun i => ⟨stB 0 1 2 (stoN (nodes.take i)), stR 1, 3⟩) (fun i => nodes.length - i) 0 (by simp) _
    ((le_ownO 0 0 56 3 ⟨30, 4, [.p .nil, .p .nil, .p (.int 0), .p (.int 0)]⟩ [] (by simp) (by simp)).trans (le_voidO 0 1 4 1 ⟨30, 4, [.own 1 [], .p .nil, .p (.int 0), .p (.int 0)]⟩ (by simp [Tb.setOb, Tb.addRw]) (by simp)))
    (leN_of [] (by simp [stoN0, trB, stB, stR, treO, stoO, thO, Tb.setOb, Tb.addRw, Tb.addOb])) ?_
  rintro i ⟨hi, hns⟩
  by_cases ci : i < nodes.length
  · have ci' : (i : Int) < (nodes.length : Int) := by omega
    have wi : IntKind.i64.wrap ((i : Int) + 1) = ((i + 1 : Nat) : Int) := by rw [wrap64_id (by omega) (by omega)]; rfl
    obtain ⟨n, hn⟩ : ∃ n, nodes[i] = n := ⟨_, rfl⟩
    by_cases k1 : 10 < n.ks.length
    · have k1' : (10 : Int) < (n.ks.length : Int) := by omega
      simp [ci, hn, k1, k1', trB, stB, stR, treO, stoO, thO, Try.results6]
    have k1' : ¬ (10 : Int) < (n.ks.length : Int) := by omega
    by_cases k2 : 10 < n.vs.length
    · have k2' : (10 : Int) < (n.vs.length : Int) := by omega
      simp [ci, hn, k1, k1', k2, k2', trB, stB, stR, treO, stoO, thO, Try.results6]
    have k2' : ¬ (10 : Int) < (n.vs.length : Int) := by omega
    simp [ci, hn, k1, k1', k2, k2', trB, stB, stR, treO, stoO, thO]
    refine aw_loop (fun k : Nat => k ≤ n.ks.length ∧ ∀ x ∈ n.ks.take k, x.length ≤ 300)
      (fun k => [(0, .p (.sl (nodes.map ndP))), (1, .p (.int root)), (2, .p (.str key)), (7, .obj 0 0), (8, .p (.int i)), (9, .p (.int k))])
      (fun _ => ⟨stB 0 1 2 (stoN (nodes.take i)), stR 1, 3⟩) (fun k => n.ks.length - k) 0 (by simp) _ (AS.le_refl _ _) (leN_of [] (by simp [trB, stB, stR, treO, stoO, thO])) ?_
    rintro k ⟨hk, hks⟩
    by_cases ck : k < n.ks.length
    · have ck' : (k : Int) < (n.ks.length : Int) := by omega
      have wk : IntKind.i64.wrap ((k : Int) + 1) = ((k + 1 : Nat) : Int) := by rw [wrap64_id (by omega) (by omega)]; rfl
      by_cases k3 : 300 < n.ks[k].length
      · have k3' : (300 : Int) < (n.ks[k].length : Int) := by omega
        simp [ci, hn, ck, k3, k3', trB, stB, stR, treO, stoO, thO, Try.results6]
      have k3' : ¬ (300 : Int) < (n.ks[k].length : Int) := by omega
      simp [ci, hn, ck, k3, k3', wk, trB, stB, stR, treO, stoO, thO]
      refine ⟨k + 1, ⟨by omega, ?_⟩, by omega, leN_of [] (by simp [trB, stB, stR, treO, stoO, thO])⟩
      rw [List.take_succ_eq_append_getElem ck]
      intro x hx
      rcases List.mem_append.1 hx with hx | hx
      · exact hks x hx
      · rw [List.mem_singleton] at hx; subst hx; omega
    · have hall : ∀ x ∈ n.ks, x.length ≤ 300 := fun x hx => hks x (by rw [List.take_of_length_le (by omega)]; exact hx)
      have hck : ¬ (k : Int) < (n.ks.length : Int) := by omega
      have hok := stoN_ok (l := nodes.take i) (by rw [List.length_take]; omega) hns
      have hap : (stoN (nodes.take i)).app n = stoN (nodes.take (i + 1)) := by rw [stoN_app, List.take_succ_eq_append_getElem ci, hn]
      have hadd := add20 0 1 2 3 ids012 (stoN (nodes.take i)) hok.wf (by have := hok.len; omega) n ⟨by omega, by omega⟩
      rw [hap] at hadd
      simp [ci, hn, hck, ck, trB, stB, stR, treO, stoO, thO]
      refine gcall_of0 hadd (by simp) (by simp [trB, stB, stR, treO, stoO, thO, sub1]) (by simp [sub1]) rfl ?_
      simp [wi, trB, stB, stR, treO, stoO, thO]
      refine ⟨i + 1, ⟨by omega, ?_⟩, by omega, leN_of [(1, 3), (2, 4)] (by simp [trB, stB, stR, treO, stoO, thO])⟩
      rw [List.take_succ_eq_append_getElem ci, hn]
      intro x hx
      rcases List.mem_append.1 hx with hx | hx
      · exact hns x hx
      · rw [List.mem_singleton] at hx; subst hx; exact ⟨by omega, by omega, hall⟩
  · have ci' : ¬ (i : Int) < (nodes.length : Int) := by omega
    have hok := stoN_ok (l := nodes.take i) (by rw [List.length_take]; omega) hns
    have hS : SOk (stoN (nodes.take i)) := hok.ok (by omega)
    have hN : (stoN (nodes.take i)).nd.length ≤ 4000 := by have := hok.len; omega
    obtain ⟨S, hSe⟩ : ∃ S, S = stoN (nodes.take i) := ⟨_, rfl⟩
    rw [← hSe] at hok hS hN
    simp only [← hSe]
    clear hSe
    simp [ci, trB, stB, stR, treO, stoO, thO]
    refine gcall_of0 (new9 0 3 (by omega) root) (by simp) (by simp [sub1]) (by simp [sub1]) rfl ?_
    simp [trB, stB, stR, treO, stoO, thO]
    refine gcall_of0 (check18 3 0 1 2 4 ids3c S hS root hroot) (by simp) (by simp [trB, stB, stR, treO, stoO, thO, sub1]) (by simp [sub1]) rfl ?_
    by_cases cr : root = 0
    · subst cr
      have hck : checkM S 0 = 0 := by simp [checkM]
      simp [hck, trB, stB, stR, treO, stoO, thO, Try.results6]
    have cr' : (root == 0) = false := by simpa using cr
    have hget := get22 3 0 1 2 4 ids3c S hS root hroot key
    have ht := tree17 S hS 40 0 root [] none hroot (by omega) (by simp) (by simp)
    by_cases c5 : checkM S root = 0
    · obtain ⟨r, e1, e2, e3⟩ := chk_ref cr hN c5 key
      have hrl := ref_len e1
      have hio := ref_its e1
      have hon : onceB r.2.1 = true := by simpa [onceB] using e2
      have ho := once21 r.2.1 (by omega)
      rw [hon] at ho
      rw [e1] at ht
      rw [e3] at hget
      simp [cr', c5, trB, stB, stR, treO, stoO, thO]
      refine rcall_of [0, 1, 2] ht (by simp) (by simp) (by simp [trB, stB, stR, treO, stoO, thO, sub1]) (by simp [trB, stB, stR, treO, stoO, thO, sub1]) ?_
      simp [trB, stB, stR, treO, stoO, thO, refP]
      refine pcall_of ho (by simp) ?_
      simp [trB, stB, stR, treO, stoO, thO]
      refine gcall_of0 hget (by simp) (by simp [trB, stB, stR, treO, stoO, thO, sub1]) (by simp [sub1]) rfl ?_
      simp [trB, stB, stR, treO, stoO, thO]
      refine gcall_of0 hget (by simp) (by simp [trB, stB, stR, treO, stoO, thO, sub1]) (by simp [sub1]) rfl ?_
      simp [trB, stB, stR, treO, stoO, thO]
      refine pcall_of (rget23 r.2.2 key hio (by omega)) (by simp) ?_
      simp [trB, stB, stR, treO, stoO, thO, Try.results6]
    · have hdel := delete13 3 0 1 2 4 _ ids3c S hok (by omega) root hroot key
      have hdo := del_ok hok hroot (by omega) key
      have hput := put11 6 0 4 5 7 _ ids3d (delT S root key).s hdo.1 (by omega) root hroot key 1 (by omega)
      have c5' : (checkM S root == 0) = false := by simpa using c5
      obtain ⟨x, hx⟩ : ∃ x, checkM S root = x := ⟨_, rfl⟩
      have hcode := check_code S root
      rw [hx] at hcode c5 c5'
      rw [hx]
      have hc2 : (x == 10) = true ∨ ((x == 10) = false ∧ (x == 33) = true) := by
        rcases hcode with h | h | h
        · exact absurd h c5
        · exact .inl (by simpa using h)
        · exact .inr ⟨by rw [h]; rfl, by simpa using h⟩
      have TAIL : True := trivial
      cases e1 : refT S 40 0 root [] none with
      | none =>
        rw [e1] at ht
        rcases hcode with h | h | h
        · exact absurd h c5
        · subst h
          simp [cr', trB, stB, stR, treO, stoO, thO]
          refine rcall_of [0, 1, 2] ht (by simp) (by simp) (by simp [trB, stB, stR, treO, stoO, thO, sub1]) (by simp [trB, stB, stR, treO, stoO, thO, sub1]) ?_
          simp [trB, stB, stR, treO, stoO, thO, refP]
          refine gcall_of0 hget (by simp) (by simp [trB, stB, stR, treO, stoO, thO, sub1]) (by simp [sub1]) rfl ?_
          simp [trB, stB, stR, treO, stoO, thO]
          refine gcall_of0 hdel (by simp) (by simp [trB, stB, stR, treO, stoO, thO, sub1]) (by simp [sub1]) rfl ?_
          simp [trB, stB, stR, treO, stoO, thO]
          refine gcall_of0 (new9 0 6 (by omega) root) (by simp) (by simp [trB, stB, stR, treO, stoO, thO, sub1]) (by simp [sub1]) rfl ?_
          simp [trB, stB, stR, treO, stoO, thO]
          refine gcall_of0 hput (by simp) (by simp [trB, stB, stR, treO, stoO, thO, sub1]) (by simp [sub1]) rfl ?_
          simp [trB, stB, stR, treO, stoO, thO, Try.results6]
        · subst h
          simp [cr', trB, stB, stR, treO, stoO, thO]
          refine rcall_of [0, 1, 2] ht (by simp) (by simp) (by simp [trB, stB, stR, treO, stoO, thO, sub1]) (by simp [trB, stB, stR, treO, stoO, thO, sub1]) ?_
          simp [trB, stB, stR, treO, stoO, thO, refP]
          refine gcall_of0 hget (by simp) (by simp [trB, stB, stR, treO, stoO, thO, sub1]) (by simp [sub1]) rfl ?_
          simp [trB, stB, stR, treO, stoO, thO]
          refine gcall_of0 hdel (by simp) (by simp [trB, stB, stR, treO, stoO, thO, sub1]) (by simp [sub1]) rfl ?_
          simp [trB, stB, stR, treO, stoO, thO]
          refine gcall_of0 (new9 0 6 (by omega) root) (by simp) (by simp [trB, stB, stR, treO, stoO, thO, sub1]) (by simp [sub1]) rfl ?_
          simp [trB, stB, stR, treO, stoO, thO]
          refine gcall_of0 hput (by simp) (by simp [trB, stB, stR, treO, stoO, thO, sub1]) (by simp [sub1]) rfl ?_
          simp [trB, stB, stR, treO, stoO, thO, Try.results6]
      | some r =>
        have hrl := ref_len e1
        have hon : onceB r.2.1 = false := by
          cases h : onceB r.2.1 with
          | false => rfl
          | true => exact absurd (hx ▸ ref_chk e1 (by simpa [onceB] using h)) c5
        have ho := once21 r.2.1 (by omega)
        rw [hon] at ho
        rw [e1] at ht
        rcases hcode with h | h | h
        · exact absurd h c5
        · subst h
          simp [cr', trB, stB, stR, treO, stoO, thO]
          refine rcall_of [0, 1, 2] ht (by simp) (by simp) (by simp [trB, stB, stR, treO, stoO, thO, sub1]) (by simp [trB, stB, stR, treO, stoO, thO, sub1]) ?_
          simp [trB, stB, stR, treO, stoO, thO, refP]
          refine pcall_of ho (by simp) ?_
          simp [trB, stB, stR, treO, stoO, thO]
          refine gcall_of0 hget (by simp) (by simp [trB, stB, stR, treO, stoO, thO, sub1]) (by simp [sub1]) rfl ?_
          simp [trB, stB, stR, treO, stoO, thO]
          refine gcall_of0 hdel (by simp) (by simp [trB, stB, stR, treO, stoO, thO, sub1]) (by simp [sub1]) rfl ?_
          simp [trB, stB, stR, treO, stoO, thO]
          refine gcall_of0 (new9 0 6 (by omega) root) (by simp) (by simp [trB, stB, stR, treO, stoO, thO, sub1]) (by simp [sub1]) rfl ?_
          simp [trB, stB, stR, treO, stoO, thO]
          refine gcall_of0 hput (by simp) (by simp [trB, stB, stR, treO, stoO, thO, sub1]) (by simp [sub1]) rfl ?_
          simp [trB, stB, stR, treO, stoO, thO, Try.results6]
        · subst h
          simp [cr', trB, stB, stR, treO, stoO, thO]
          refine rcall_of [0, 1, 2] ht (by simp) (by simp) (by simp [trB, stB, stR, treO, stoO, thO, sub1]) (by simp [trB, stB, stR, treO, stoO, thO, sub1]) ?_
          simp [trB, stB, stR, treO, stoO, thO, refP]
          refine pcall_of ho (by simp) ?_
          simp [trB, stB, stR, treO, stoO, thO]
          refine gcall_of0 hget (by simp) (by simp [trB, stB, stR, treO, stoO, thO, sub1]) (by simp [sub1]) rfl ?_
          simp [trB, stB, stR, treO, stoO, thO]
          refine gcall_of0 hdel (by simp) (by simp [trB, stB, stR, treO, stoO, thO, sub1]) (by simp [sub1]) rfl ?_
          simp [trB, stB, stR, treO, stoO, thO]
          refine gcall_of0 (new9 0 6 (by omega) root) (by simp) (by simp [trB, stB, stR, treO, stoO, thO, sub1]) (by simp [sub1]) rfl ?_
          simp [trB, stB, stR, treO, stoO, thO]
          refine gcall_of0 hput (by simp) (by simp [trB, stB, stR, treO, stoO, thO, sub1]) (by simp [sub1]) rfl ?_
          simp [trB, stB, stR, treO, stoO, thO, Try.results6]
end Go.Av

/-! part W49 -/
namespace Go.Av
open Go.Proofs Go.Tre

theorem cellsT4 : Try.prog.cellsOf 4 = 1 := by kernel_rfl
theorem cellsT56 : Try.prog.cellsOf 56 = 3 := by kernel_rfl
def ndS (x : PC) : Prop := ∃ n : Nd, x = ndP n
def ndsS (x : PC) : Prop := ∃ l : List Nd, x = .sl (l.map ndP)
def strS (x : PC) : Prop := ∃ s : List UInt8, x = .str s
theorem rdN : RdU Try.prog 56 ndS := by
  refine (rd_struct (Ss := [_, _, _]) Try.underlying56 (by rw [cellsT56]; simp [totF, show Try.prog.cellsOf 4 = 1 from cellsT4, cellsT48, cellsT49])
    ⟨rfl, (rd_bool Try.underlying4).c, (by rw [cellsT4]), rdKs.c, (by simp [cellsT48]; exact cellsT4), rdIs.c, trivial⟩).mono ?_
  rintro x ⟨ys, rfl, h⟩
  match ys, h with
  | [a, b, c], ⟨⟨l, ha⟩, ⟨ks, hb⟩, ⟨vs, hc, _⟩, _⟩ =>
    subst ha; subst hb; subst hc
    exact ⟨⟨l, ks, vs⟩, rfl⟩
  | [], h => exact h.elim
  | [_], h => exact h.2.elim
  | [_, _], h => exact h.2.2.elim
  | _ :: _ :: _ :: _ :: _, h => exact h.2.2.2.elim
theorem rd25 : RdV Try.prog 25 ndsS :=
  rv_one (by rw [Try.underlying25]; simp) (by rw [Try.underlying25]; simp) ((rd_slice Try.underlying25 (by rw [cellsT56]; omega) rdN).mono fun x ⟨xs, h, _, hv⟩ => by
    obtain ⟨l, rfl⟩ := list_of (f := ndP) hv; exact ⟨l, h⟩) (by rintro x ⟨l, rfl⟩ b xs h; cases h)
theorem rd9 : RdV Try.prog 9 strS :=
  rv_one (by rw [Try.underlying9]; simp) (by rw [Try.underlying9]; simp) ((rd_string Try.underlying9).c.mono fun x ⟨s, h, _⟩ => ⟨s, h⟩) (by rintro x ⟨s, rfl⟩ b xs h; cases h)
theorem law6n {x y z : PC} (hx : ndsS x) (hy : intS y) (hz : strS z) : PureC Try.prog 6 [x, y, z] (.bool true) := by
  obtain ⟨l, rfl⟩ := hx
  obtain ⟨r, rfl, hr⟩ := hy
  obtain ⟨k, rfl⟩ := hz
  exact law6 l r k hr
end Go.Av
