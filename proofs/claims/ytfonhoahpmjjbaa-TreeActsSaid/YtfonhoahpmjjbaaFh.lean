/- TreeActs computes true; how its inputs are read. -/
import Derived.Test.YtfonhoahpmjjbaaFg
set_option linter.all false
/-! part W35 -/
namespace Go.Av
open Go.Proofs Go.Tre
set_option maxRecDepth 100000
theorem chk_zero {b : Nat} {S : Sto} {root : Int} {its : Its} (h : SInv b S root its) (hl : its.length ≤ 4000) : checkM S root = 0 := by
  by_cases hr : root = 0
  · unfold checkM; rw [if_pos hr]
  · obtain ⟨_, _, _, _, e, _⟩ := inv_ref h.inv hr hl
    exact e
theorem mem_rput_key {its : Its} {key : Key} {v : Int} {ks : List Key} (h : ∀ x ∈ its, x.1 ∈ ks) : ∀ x ∈ rput its key v, x.1 ∈ ks ++ [key] := fun x hx => by
  rcases mem_rput hx with rfl | hx
  · simp
  · exact List.mem_append_left _ (h x hx)
theorem rdel_ne {its : Its} (ha : Asc its) (key : Key) : ∀ x ∈ rdel its key, x.1 ≠ key := by
  have hp := place_spec its key
  have hle := place_le its key
  have hA := List.pairwise_iff_getElem.1 ha
  have h1 : ∀ x ∈ its.take (place its key), x.1 ≠ key := fun x hx e => by have := hp.1 x hx; rw [e] at this; exact lt_irrefl _ this
  intro x hx e
  unfold rdel at hx
  by_cases hf : found its key = true
  · rw [if_pos hf] at hx
    have hlt := found_lt hf
    have hk : its[place its key].1 = key := by unfold found at hf; rw [List.getElem?_eq_getElem hlt] at hf; simpa using hf
    rcases List.mem_append.1 hx with h | h
    · exact h1 x h e
    · obtain ⟨i, hi, rfl⟩ := List.getElem_of_mem h
      rw [List.length_drop] at hi
      rw [List.getElem_drop] at e
      have := hA (place its key) (place its key + 1 + i) hlt (by omega) (by omega)
      rw [e, hk] at this; exact lt_irrefl _ this
  · rw [if_neg hf] at hx
    rw [← List.take_append_drop (place its key) its] at hx
    rcases List.mem_append.1 hx with h | h
    · exact h1 x h e
    · obtain ⟨i, hi, rfl⟩ := List.getElem_of_mem h
      rw [List.length_drop] at hi
      rw [List.getElem_drop] at e
      have hlt : place its key < its.length := by omega
      have hn := hp.2 hlt
      have hne : its[place its key].1 ≠ key := fun e => hf (by unfold found; rw [List.getElem?_eq_getElem hlt]; simpa using e)
      have hgt : lt key its[place its key].1 := by
        rcases nlt hn with h | h
        · exact absurd h (fun h => hne (by rw [h]))
        · exact h
      cases i with
      | zero => simp only [Nat.add_zero] at e; exact hne e
      | succ i =>
        have := hA (place its key) (place its key + (i + 1)) hlt (by omega) (by omega)
        rw [e] at this; exact lt_asymm hgt this
structure L5 where
  j : Nat
  S : Sto
  root : Int
  its : Its
structure L5Ok (keys : List Key) (y : L5) : Prop where
  j : y.j ≤ keys.length
  c : SInv (1 + 100 * y.j) y.S y.root y.its
  k : ItsOk y.its
  l : y.its.length ≤ y.j
  m : ∀ x ∈ y.its, x.1 ∈ keys.take y.j
structure L6 where
  i : Nat
  S : Sto
  root : Int
  its : Its
  left : List Key
structure L6Ok (n : Nat) (y : L6) : Prop where
  j : y.i + y.left.length = n
  c : SInv (1 + 100 * (n + y.i)) y.S y.root y.its
  k : ItsOk y.its
  l : y.its.length ≤ n
  m : ∀ x ∈ y.its, x.1 ∈ y.left
theorem rem_ex (x : Int) (n : Nat) (h : 0 < n) (hn : n ≤ 1000000) : ∃ k : Nat, k < n ∧ (IntKind.i64.wrap (x.tmod (n : Int) + (n : Int))).tmod (n : Int) = (k : Int) := by
  have h1 : x.tmod (n : Int) < n := Int.tmod_lt_of_pos x (by omega)
  have h2 : -(n : Int) < x.tmod (n : Int) := by
    have := Int.lt_tmod_of_pos x (b := (n : Int)) (by omega)
    omega
  rw [wrap64_id (by omega) (by omega), Int.tmod_eq_emod_of_nonneg (by omega)]
  have h3 := Int.emod_lt_of_pos (x.tmod (n : Int) + (n : Int)) (b := (n : Int)) (by omega)
  have h4 := Int.emod_nonneg (x.tmod (n : Int) + (n : Int)) (b := (n : Int)) (by omega)
  exact ⟨_, by omega, (Int.toNat_of_nonneg h4).symm⟩
theorem cut_mem {left : List Key} {k : Nat} (hk : k < left.length) {its : Its} (h : ∀ x ∈ its, x.1 ∈ left) (hn : ∀ x ∈ its, x.1 ≠ left[k]) : ∀ x ∈ its, x.1 ∈ left.take k ++ left.drop (k + 1) := fun x hx => by
  have h1 := h x hx
  rw [← List.take_append_drop k left, List.drop_eq_getElem_cons hk] at h1
  rcases List.mem_append.1 h1 with h1 | h1
  · exact List.mem_append_left _ h1
  · rcases List.mem_cons.1 h1 with h1 | h1
    · exact absurd h1 (hn x hx)
    · exact List.mem_append_right _ h1

theorem w_take {l : List Key} {k : Nat} : ∀ y : PC, y ∈ List.take k (l.map PC.str) → y.width = 1 := fun y h => by
  obtain ⟨x, _, rfl⟩ := List.mem_map.1 (List.mem_of_mem_take h); rfl
theorem w_drop {l : List Key} {k : Nat} : ∀ y : PC, y ∈ List.drop k (l.map PC.str) → y.width = 1 := fun y h => by
  obtain ⟨x, _, rfl⟩ := List.mem_map.1 (List.mem_of_mem_drop h); rfl
theorem w_tail {l : List Key} : ∀ y : PC, y ∈ (l.map PC.str).tail → y.width = 1 := fun y h => by
  obtain ⟨x, _, rfl⟩ := List.mem_map.1 (List.mem_of_mem_tail h); rfl
set_option maxHeartbeats 4000000 in
theorem law5 (keys : List Key) (order : List Int) : PureC Try.prog 5 [.sl (keys.map PC.str), .sl (order.map PC.int)] (.bool true) := by
  refine pure_of_aw (ys := [_]) [32] [] [] mixed Try.func5 rfl (by kernel_rfl) (by kernel_rfl) (by simp [Try.ntmps5]) rfl ?_
  simp
  refine pcall_of awake8 (by simp) ?_
  by_cases c1 : 60 < keys.length
  · have c1' : (60 : Int) < (keys.length : Int) := by omega
    simp [c1, c1']
    refine pcall_of awake8 (by simp) ?_
    simp [Try.results5]
  have c1' : ¬ (60 : Int) < (keys.length : Int) := by omega
  by_cases c2 : 60 < order.length
  · have c2' : (60 : Int) < (order.length : Int) := by omega
    simp [c1, c1', c2, c2']
    refine pcall_of awake8 (by simp) ?_
    simp [Try.results5]
  have c2' : ¬ (60 : Int) < (order.length : Int) := by omega
  simp [c1, c1', c2, c2']
  refine gcall_of0 (new9 0 1 (by omega) 0) (by simp) (by simp [sub1]) (by simp [sub1]) rfl ?_
  simp [treO]
  refine aw_loop (fun y : L5 => L5Ok keys y)
    (fun y => [(0, .p (.sl (keys.map PC.str))), (1, .p (.sl (order.map PC.int))), (5, .obj 0 0), (6, .obj 1 0), (7, .p (itsP y.its)), (8, .own 4 ((keys.take y.j).map PC.str)), (9, .p (.int y.j))])
    (fun y => ⟨trB 1 0 2 3 y.S y.root, (4, 9, 1) :: stR 2, 5⟩) (fun y => keys.length - y.j) ⟨0, ⟨[], [], 0, 0⟩, 0, []⟩ ⟨by simp, s_zero, ⟨by simp, by simp⟩, by simp, by simp⟩ _
    ((le_ownO 0 0 56 3 ⟨30, 4, [.p .nil, .p .nil, .p (.int 0), .p (.int 0)]⟩ [] (by simp) (by simp)).trans ((le_voidO 0 1 4 1 ⟨30, 4, [.own 2 [], .p .nil, .p (.int 0), .p (.int 0)]⟩ (by simp [Tb.setOb, Tb.addRw]) (by simp)).trans
      (le_own 8 9 1 [] (.inr ⟨rfl, by simp⟩))))
    (leN_of [] (by simp [trB, stB, stR, treO, stoO, thO, Tb.setOb, Tb.addRw, Tb.addOb])) ?_
  rintro ⟨j, S, root, its⟩ ⟨hj, hc, hio, hln, hm⟩
  simp only at hj hc hio hln hm
  have hN := hc.ok.len
  have wj : IntKind.i64.wrap ((j : Int) + 1) = ((j + 1 : Nat) : Int) := by rw [wrap64_id (by omega) (by omega)]; rfl
  have hil : its.length ≤ 100000000 := by have := hc.len; omega
  by_cases cn : j < keys.length
  · have cn' : (j : Int) < (keys.length : Int) := by omega
    obtain ⟨x, hx⟩ : ∃ x, keys[j] = x := ⟨_, rfl⟩
    by_cases k1 : x.length < 1
    · have k1' : (x.length : Int) < 1 := by omega
      have k1n : x = [] := List.length_eq_zero_iff.1 (by omega)
      simp [cn, hx, k1n, trB, stB, stR, treO, stoO, thO, Try.results5]
    have k1' : ¬ (x.length : Int) < 1 := by omega
    have k1n : x ≠ [] := fun h => by rw [h] at k1; simp at k1
    by_cases k2 : 100 < x.length
    · have k2' : (100 : Int) < (x.length : Int) := by omega
      simp [cn, hx, k1', k1n, k2', k2, trB, stB, stR, treO, stoO, thO, Try.results5]
    have k2' : ¬ (100 : Int) < (x.length : Int) := by omega
    have hko : kOk x := ⟨by omega, by omega⟩
    have hput := (put_s hc (by omega) hko (v := j) ⟨by omega, by omega⟩).1
    simp [cn, hx, k1', k1n, k2', k2, trB, stB, stR, treO, stoO, thO]
    refine gcall_of0 (put11 1 0 2 3 5 _ ⟨by omega, ⟨by omega, by omega, by omega, by omega, by omega, by omega⟩, by omega, by omega, by omega⟩ S hc.ok (by omega) root hc.rt x j (by omega)) (by simp) (by simp [trB, stB, stR, treO, stoO, thO, sub1]) (by simp [stR, sub1]) rfl ?_
    simp [cn, hx, trB, stB, stR, treO, stoO, thO]
    refine pcall_of (rput12 its x j hio (by omega)) (by simp) ?_
    have ht : List.take (j + 1) keys = List.take j keys ++ [x] := by rw [List.take_succ_eq_append_getElem cn, hx]
    have ht' : List.take (j + 1) (List.map PC.str keys) = List.take j (List.map PC.str keys) ++ [PC.str x] := by rw [← List.map_take, ht]; simp
    simp [cn, hx, wj, trB, stB, stR, treO, stoO, thO]
    repeat' apply And.intro
    all_goals first | omega | exact w_take | skip
    refine ⟨⟨j + 1, (putT S root x j).s, (putT S root x j).root, rput its x j⟩, ⟨by simp only; omega, hput.up (by simp only; omega), its_put hio hil (by omega), Nat.le_trans (rput_len its x j) (by simp only; omega), ?_⟩, by simp only; omega, leN_of [(2, 5), (3, 6), (4, 7)] (by simp [ht', trB, stB, stR, treO, stoO, thO])⟩
    simp only [ht]; exact mem_rput_key hm
  · have cn' : ¬ (j : Int) < (keys.length : Int) := by omega
    have hje : j = keys.length := by omega
    subst hje
    have hsc : scanM S root [] 1000 = (its, 0) := by rw [scanM_law hc.inv [] 1000 (by omega), rscan_all 1000 (by omega)]
    simp [trB, stB, stR, treO, stoO, thO]
    refine gcall_of0 (scan15 1 0 2 3 5 ⟨by omega, ⟨by omega, by omega, by omega, by omega, by omega, by omega⟩, by omega, by omega, by omega⟩ S (hc.ok.ok (by omega)) root hc.rt [] 1000 _ hsc (by omega)) (by simp) (by simp [trB, stB, stR, treO, stoO, thO, sub1]) (by simp [stR, sub1]) rfl ?_
    simp [trB, stB, stR, treO, stoO, thO]
    refine pcall_of (same16 its its hio hio) (by simp) ?_
    simp [trB, stB, stR, treO, stoO, thO]
    refine aw_loop (fun y : L6 => L6Ok keys.length y)
      (fun y => [(1, .p (.sl (order.map PC.int))), (5, .obj 0 0), (6, .obj 1 0), (8, .own 4 (y.left.map PC.str)), (12, .p (.int y.i))])
      (fun y => ⟨trB 1 0 2 3 y.S y.root, (4, 9, 1) :: stR 2, 5⟩) (fun y => keys.length - y.i) ⟨0, S, root, its, keys⟩ ⟨by simp, by simpa using hc, hio, hln, by simpa using hm⟩ _ (AS.le_refl _ _)
      (leN_of [] (by simp [trB, stB, stR, treO, stoO, thO])) ?_
    rintro ⟨i, S, root, its, left⟩ ⟨hi, hc, hio, hln, hm⟩
    simp only at hi hc hio hln hm
    have hN := hc.ok.len
    by_cases c3 : left = []
    · subst c3
      have hz : its = [] := by
        cases its with
        | nil => rfl
        | cons x l => have := hm x (by simp); simp at this
      subst hz
      have hr := inv_nil hc.inv
      subst hr
      have hcz := count_none hc.inv.wf (inv_zero hc.inv).2
      simp [trB, stB, stR, treO, stoO, thO]
      refine gcall_of0 (root10 1 0 2 3 5 ⟨by omega, ⟨by omega, by omega, by omega, by omega, by omega, by omega⟩, by omega, by omega, by omega⟩ S 0) (by simp) (by simp [trB, stB, stR, treO, stoO, thO, sub1]) (by simp [stR, sub1]) rfl ?_
      simp [trB, stB, stR, treO, stoO, thO]
      refine gcall_of0 (count19 0 2 3 5 ⟨by omega, by omega, by omega, by omega, by omega, by omega⟩ S (hc.ok.ok (by omega))) (by simp) (by simp [trB, stB, stR, treO, stoO, thO, sub1]) (by simp [stR, sub1]) rfl ?_
      simp [hcz, trB, stB, stR, treO, stoO, thO, Try.results5]
    have hl0 : 0 < left.length := List.length_pos_iff.2 c3
    have c3' : (0 : Int) < (left.length : Int) := by omega
    have wi : IntKind.i64.wrap ((i : Int) + 1) = ((i + 1 : Nat) : Int) := by rw [wrap64_id (by omega) (by omega)]; rfl
    obtain ⟨k, hk, hrem⟩ : ∃ k : Nat, k < left.length ∧ (if h : i < order.length then (IntKind.i64.wrap ((order[i]).tmod (left.length : Int) + (left.length : Int))).tmod (left.length : Int) else 0) = (k : Int) := by
      split
      · exact rem_ex _ _ hl0 (by omega)
      · exact ⟨0, hl0, rfl⟩
    have wk : IntKind.i64.wrap ((k : Int) + 1) = ((k + 1 : Nat) : Int) := by rw [wrap64_id (by omega) (by omega)]; rfl
    have hdel := (del_s hc (by omega) left[k]).1
    have hde := (del_s hc (by omega) left[k]).2.1
    have hck := chk_zero hdel (by have := rdel_len its left[k]; omega)
    by_cases c4 : i < order.length
    · rw [dif_pos c4] at hrem
      have hne : ¬ (left.length : Int) = 0 := by omega
      simp [hl0, c4, hne, hrem, hk, trB, stB, stR, treO, stoO, thO]
      refine ⟨c3, ?_⟩
      refine gcall_of0 (delete13 1 0 2 3 5 _ ⟨by omega, ⟨by omega, by omega, by omega, by omega, by omega, by omega⟩, by omega, by omega, by omega⟩ S hc.ok (by omega) root hc.rt left[k]) (by simp) (by simp [trB, stB, stR, treO, stoO, thO, sub1]) (by simp [stR, sub1]) rfl ?_
      have hde' : ((delT S root left[k]).e != 0) = false := by rw [hde]; rfl
      simp [hde', trB, stB, stR, treO, stoO, thO]
      refine gcall_of0 (check18 1 0 5 6 7 ⟨by omega, ⟨by omega, by omega, by omega, by omega, by omega, by omega⟩, by omega, by omega, by omega⟩ _ (hdel.ok.ok (by omega)) _ hdel.rt) (by simp) (by simp [trB, stB, stR, treO, stoO, thO, sub1]) (by simp [stR, sub1]) rfl ?_
      simp [hck, hk, wk, wi, trB, stB, stR, treO, stoO, thO]
      repeat' apply And.intro
      all_goals first | omega | exact w_take | exact w_drop | exact w_tail | skip
      refine ⟨⟨i + 1, (delT S root left[k]).s, (delT S root left[k]).root, rdel its left[k], left.take k ++ left.drop (k + 1)⟩, ⟨by simp; omega, hdel.up (by simp only; omega), its_del hio (by omega), Nat.le_trans (rdel_len its left[k]) (by first | omega | (simp only; omega)), ?_⟩, by first | omega | (simp only; omega), leN_of [(2, 5), (3, 6), (4, 8)] (by simp [trB, stB, stR, treO, stoO, thO])⟩
      have hcm := cut_mem hk (its := rdel its left[k]) (fun x hx => hm x (mem_rdel hx)) (rdel_ne (inv_asc hc.inv) _)
      simpa using hcm
    · rw [dif_neg c4] at hrem
      have hk0 : k = 0 := by omega
      subst hk0
      have w10 : IntKind.i64.wrap 1 = 1 := by decide
      simp [hl0, c4, hk, trB, stB, stR, treO, stoO, thO]
      refine gcall_of0 (delete13 1 0 2 3 5 _ ⟨by omega, ⟨by omega, by omega, by omega, by omega, by omega, by omega⟩, by omega, by omega, by omega⟩ S hc.ok (by omega) root hc.rt left[0]) (by simp) (by simp [trB, stB, stR, treO, stoO, thO, sub1]) (by simp [stR, sub1]) rfl ?_
      have hde' : ((delT S root left[0]).e != 0) = false := by rw [hde]; rfl
      simp [hde', trB, stB, stR, treO, stoO, thO]
      refine gcall_of0 (check18 1 0 5 6 7 ⟨by omega, ⟨by omega, by omega, by omega, by omega, by omega, by omega⟩, by omega, by omega, by omega⟩ _ (hdel.ok.ok (by omega)) _ hdel.rt) (by simp) (by simp [trB, stB, stR, treO, stoO, thO, sub1]) (by simp [stR, sub1]) rfl ?_
      simp [hck, hk, w10, wk, wi, trB, stB, stR, treO, stoO, thO]
      repeat' apply And.intro
      all_goals first | omega | exact w_take | exact w_drop | exact w_tail | skip
      refine ⟨⟨i + 1, (delT S root left[0]).s, (delT S root left[0]).root, rdel its left[0], left.tail⟩, ⟨by simp; omega, hdel.up (by simp only; omega), its_del hio (by omega), Nat.le_trans (rdel_len its left[0]) (by first | omega | (simp only; omega)), ?_⟩, by first | omega | (simp only; omega), leN_of [(2, 5), (3, 6), (4, 8)] (by simp [trB, stB, stR, treO, stoO, thO])⟩
      have hcm := cut_mem hk (its := rdel its left[0]) (fun x hx => hm x (mem_rdel hx)) (rdel_ne (inv_asc hc.inv) _)
      simpa using hcm
end Go.Av

/-! part W36 -/
namespace Go.Av
open Go.Proofs Go.Tre
set_option maxRecDepth 100000
@[reducible] def refP : Option (Int × List Int × Its) → AV
  | none => .agg true [.p (.int 0), .p .nil, .p .nil, .p (.bool false)]
  | some r => .agg true [.p (.int r.1), .p (.sl (r.2.1.map PC.int)), .p (itsP r.2.2), .p (.bool true)]
theorem foldR_len {g : Int → Key → Option Key → Option (Int × List Int × Its)} (hg : ∀ v lo hi r, g v lo hi = some r → r.2.1.length ≤ 5000 ∧ r.2.2.length ≤ 4 * r.2.1.length) :
    ∀ (lo : Key) (ks : List Key) (hi : Option Key) (vs : List Int) (a r : Int × List Int × Its), a.2.1.length ≤ 5000 → a.2.2.length ≤ 4 * a.2.1.length → foldR g lo ks hi vs a = some r → r.2.1.length ≤ 5000 ∧ r.2.2.length ≤ 4 * r.2.1.length
  | lo, k :: ks, hi, v :: vs, a, r, h1, h2, h => by
    simp only [foldR] at h
    split at h
    · cases h
    · rename_i q hq
      split at h
      · cases h
      · rename_i hc
        have := hg _ _ _ _ hq
        exact foldR_len hg _ _ _ _ _ _ (by simp only [List.length_append]; omega) (by simp only [List.length_append]; omega) h
  | lo, [], hi, v :: vs, a, r, h1, h2, h => by
    simp only [foldR] at h
    split at h
    · cases h
    · rename_i q hq
      split at h
      · cases h
      · rename_i hc
        have := hg _ _ _ _ hq
        injection h with h; subst h
        exact ⟨by simp only [List.length_append]; omega, by simp only [List.length_append]; omega⟩
  | lo, ks, hi, [], a, r, h1, h2, h => by
    have : foldR g lo ks hi [] a = some a := by cases ks <;> rfl
    rw [this] at h; injection h with h; subst h; exact ⟨h1, h2⟩
theorem refT_len (S : Sto) : ∀ (f d : Nat) (p : Int) (lo : Key) (hi : Option Key) (r : Int × List Int × Its), refT S f d p lo hi = some r → r.2.1.length ≤ 5000 ∧ r.2.2.length ≤ 4 * r.2.1.length
  | 0, _, _, _, _, _, h => by simp [refT] at h
  | f + 1, d, p, lo, hi, r, h => by
    unfold refT at h
    split at h
    · cases h
    · rename_i n hn
      split at h
      · rename_i hc
        have hr := (rB_iff n).1 hc.1
        have hl := hr.len
        split at h
        · injection h with h; subst h
          exact ⟨by simp, by simp; omega⟩
        · exact foldR_len (fun v lo hi r h => refT_len S f (d + 1) v lo hi r h) _ _ _ _ _ _ (by simp) (by simp) h
      · cases h
theorem refT_dep {S : Sto} {f d : Nat} {p : Int} {lo : Key} {hi : Option Key} {r : Int × List Int × Its} (h : refT S f d p lo hi = some r) : 0 ≤ r.1 ∧ r.1 + 1 ≤ d + f := by
  obtain ⟨h', n, pg, _, _, _, _, h1, _, h2⟩ := refT_tr h
  omega
end Go.Av

/-! part W39 -/
namespace Go.Av
open Go.Proofs Go.Tre
set_option maxRecDepth 100000
def winB (lo : Key) (hi : Option Key) (k : Key) : Bool := !Op.bytesLess k lo && (match hi with | some h => Op.bytesLess k h | none => true)
theorem fitB_all (n : Nd) (lo : Key) (hi : Option Key) : fitB n lo hi = n.ks.all (winB lo hi) := rfl
theorem ids012 : Ids3 0 1 2 3 := ⟨by omega, by omega, by omega, by omega, by omega, by omega⟩
theorem get_mem {S : Sto} {p : Int} {n : Nd} (h : S.get p = some n) : n ∈ S.nd := by
  unfold Sto.get at h; split at h
  · exact List.mem_of_getElem? h
  · cases h
def q0 : Option (Int × List Int × Its) → AV | none => .p (.int 0) | some r => .p (.int r.1)
def q1 : Option (Int × List Int × Its) → AV | none => .p .nil | some r => .p (.sl (r.2.1.map PC.int))
def q2 : Option (Int × List Int × Its) → AV | none => .p .nil | some r => .p (itsP r.2.2)
def q3 : Option (Int × List Int × Its) → AV | none => .p (.bool false) | some _ => .p (.bool true)
theorem refP_q (r : Option (Int × List Int × Its)) : refP r = .agg true [q0 r, q1 r, q2 r, q3 r] := by cases r <;> rfl
theorem right42 {S : Sto} (hS : SOk S) {p : Int} {n : Nd} (h : S.get p = some n) : PureC Try.prog 42 [nodeP n.lf n.ks n.vs] (.bool (rB n)) := by
  have hn := hS.nds n (get_mem h)
  have := right21 n.lf n.ks n.vs (by omega) (fun k hk => by have := hn.2.2 k hk; omega)
  rw [rB_rightB] at this; exact this

set_option maxHeartbeats 20000000 in
theorem tree17 (S : Sto) (hS : SOk S) : ∀ (f d : Nat) (page : Int) (lo : Key) (hi : Option Key), i64b page → d + f = 40 → lo.length ≤ 1000000 → (∀ k, hi = some k → k.length ≤ 1000000) →
    GenC Try.prog 17 [.obj 0 0, .p (.int page), .p (.int d), .p (.str lo), .p (.str (hi.getD [])), .p (.bool hi.isSome)] ⟨stB 0 1 2 S, stR 1, 3⟩ (refP (refT S f d page lo hi)) ⟨stB 0 1 2 S, stR 1, 3⟩ := by
  intro f
  induction f with
  | zero =>
    intro d page lo hi hp hd hlo hhi
    have e : refT S 0 d page lo hi = none := rfl
    have c0 : (39 : Int) < (d : Int) := by omega
    rw [e, refP_q]
    refine gen_of_aw (rs := [_, _, _, _]) [20, 21] [(20, [(2, .r 1), (7, .r 1), (13, .f [1])])] [(1, 3)] mixed Try.func17 rfl (by kernel_rfl) (by kernel_rfl) (by simp [Try.ntmps17]) rfl ?_
    simp [stB, stR, stoO, thO]
    refine gcall_of0 (node41 0 1 2 3 ids012 S hS page hp) (by simp) (by simp [stoO, thO, sub1]) (by simp [sub1]) rfl ?_
    cases hg : S.get page with
    | none =>
      simp [c0, stB, stR, stoO, thO, gN, nd0, Try.results17, q0, q1, q2, q3]
      exact ⟨[], by simp⟩
    | some n =>
      simp [c0, stB, stR, stoO, thO, gN]
      refine pcall_of (right42 hS hg) (by simp) ?_
      cases c : rB n with
      | true =>
        simp [c0, stB, stR, stoO, thO, Try.results17, q0, q1, q2, q3]
        exact ⟨[], by simp⟩
      | false =>
        simp [c0, stB, stR, stoO, thO, Try.results17, q0, q1, q2, q3]
        exact ⟨[], by simp⟩
  | succ f ih =>
    intro d page lo hi hp hd hlo hhi
    have c0 : ¬ (39 : Int) < (d : Int) := by omega
    obtain ⟨RR, hRR⟩ : ∃ RR, RR = refT S (f + 1) d page lo hi := ⟨_, rfl⟩
    rw [← hRR, refP_q]
    unfold refT at hRR
    refine gen_of_aw (rs := [_, _, _, _]) [20, 21] [(20, [(2, .r 1), (7, .r 1), (13, .f [1])])] [(1, 3)] mixed Try.func17 rfl (by kernel_rfl) (by kernel_rfl) (by simp [Try.ntmps17]) rfl ?_
    simp [stB, stR, stoO, thO]
    refine gcall_of0 (node41 0 1 2 3 ids012 S hS page hp) (by simp) (by simp [stoO, thO, sub1]) (by simp [sub1]) rfl ?_
    cases hg : S.get page with
    | none =>
      rw [hg] at hRR
      subst hRR
      simp [c0, stB, stR, stoO, thO, gN, nd0, Try.results17, q0, q1, q2, q3]
      exact ⟨[], by simp⟩
    | some n =>
      rw [hg] at hRR
      simp only at hRR
      have hn := hS.nds n (get_mem hg)
      simp [c0, stB, stR, stoO, thO, gN]
      refine pcall_of (right42 hS hg) (by simp) ?_
      cases c : rB n with
      | false =>
        rw [if_neg (by rw [c]; simp)] at hRR
        subst hRR
        simp [c0, stB, stR, stoO, thO, Try.results17, q0, q1, q2, q3]
        exact ⟨[], by simp⟩
      | true =>
        have hr := (rB_iff n).1 c
        have hvl := hr.form
        have hkl := hr.len
        by_cases c4 : n.lf = true
        · rw [c4] at hvl
          simp only [if_true] at hvl
          by_cases c5 : d = 0
          · subst c5
            have hfw : fewK (0 : Nat) n = 1 := by simp [fewK]
            by_cases c6 : n.ks.length < 1
            · have c6' : ((n.ks.length : Int) < 1) := by omega
              rw [if_neg (by rw [hfw]; omega)] at hRR
              subst hRR
              simp [c6', c4, c0, stB, stR, stoO, thO, Try.results17, q0, q1, q2, q3]
              exact ⟨[], by simp⟩
            have c6' : ¬ ((n.ks.length : Int) < 1) := by omega
            simp [c6', c4, c0, stB, stR, stoO, thO]

            refine aw_loop (fun i : Nat => i ≤ n.ks.length ∧ fitB n lo hi = (n.ks.drop i).all (winB lo hi))
              (fun i => [(0, .obj 0 0), (1, .p (.int page)), (2, .p (.int (0 : Nat))), (3, .p (.str lo)), (4, .p (.str (hi.getD []))), (5, .p (.bool hi.isSome)), (16, .obj 3 0), (19, .p (.int i))])
              (fun _ => ⟨(3, ⟨56, 3, [.p (.bool true), .p (.sl (n.ks.map PC.str)), .p (.sl (n.vs.map PC.int))]⟩) :: stB 0 1 2 S, stR 1, 4⟩) (fun i => n.ks.length - i) 0 ⟨by simp, rfl⟩ _ (AS.le_refl _ _) (leN_id (by simp [stB, stR, stoO, thO])) ?_
            rintro i ⟨g1, g2⟩
            by_cases c7 : i < n.ks.length
            · rw [List.drop_eq_getElem_cons c7, List.all_cons] at g2
              have hkx := hn.2.2 n.ks[i] (List.getElem_mem c7)
              have wi : IntKind.i64.wrap ((i : Int) + 1) = ((i + 1 : Nat) : Int) := by rw [wrap64_id (by omega) (by omega)]; rfl
              simp [c7, stB, stR, stoO, thO]
              refine pcall_of (less_p n.ks[i] lo (by omega) (by omega)) (by simp) ?_
              cases b1 : Op.bytesLess n.ks[i] lo with
              | true =>
                have hf : fitB n lo hi = false := by rw [g2]; simp [winB, b1]
                rw [if_neg (by rw [hf]; simp)] at hRR; subst hRR
                simp [stB, stR, stoO, thO, Try.results17, q0, q1, q2, q3]
                exact ⟨[], by simp⟩
              | false =>
                cases hi with
                | none =>
                  simp [c7, wi, stB, stR, stoO, thO]
                  exact ⟨i + 1, ⟨by omega, by rw [g2]; simp [winB, b1]⟩, by omega, leN_id (by simp [stB, stR, stoO, thO])⟩
                | some h =>
                  have hhx := hhi h rfl
                  simp [c7, stB, stR, stoO, thO]
                  refine pcall_of (less_p n.ks[i] h (by omega) (by omega)) (by simp) ?_
                  cases b2 : Op.bytesLess n.ks[i] h with
                  | false =>
                    have hf : fitB n lo (some h) = false := by rw [g2]; simp [winB, b1, b2]
                    rw [if_neg (by rw [hf]; simp)] at hRR; subst hRR
                    simp [stB, stR, stoO, thO, Try.results17, q0, q1, q2, q3]
                    exact ⟨[], by simp⟩
                  | true =>
                    simp [wi, stB, stR, stoO, thO]
                    exact ⟨i + 1, ⟨by omega, by rw [g2]; simp [winB, b1, b2]⟩, by omega, leN_id (by simp [stB, stR, stoO, thO])⟩
            · have hf : fitB n lo hi = true := by rw [g2, List.drop_eq_nil_of_le (by omega)]; rfl
              have c7' : ¬ (i : Int) < (n.ks.length : Int) := by omega
              rw [if_pos ⟨c, by rw [hfw]; omega, hf⟩] at hRR
              rw [if_pos c4] at hRR
              subst hRR
              simp [c7, stB, stR, stoO, thO]
              refine aw_loop (fun i : Nat => i ≤ n.ks.length)
                (fun i => [(2, .p (.int (0 : Nat))), (16, .obj 3 0), (20, .full [PC.int page]), (21, .own 4 (((n.ks.zip n.vs).take i).map itP)), (22, .p (.int i))])
                (fun _ => ⟨(3, ⟨56, 3, [.p (.bool true), .p (.sl (n.ks.map PC.str)), .p (.sl (n.vs.map PC.int))]⟩) :: stB 0 1 2 S, (4, 69, 2) :: stR 1, 5⟩) (fun i => n.ks.length - i) 0 (by simp) _ (le_own 21 69 2 [] (.inr ⟨rfl, by simp⟩)) (leN_id (by simp [stB, stR, stoO, thO, Tb.addRw])) ?_
              rintro i g1
              by_cases c8 : i < n.ks.length
              · have c8v : i < n.vs.length := by omega
                have wi : IntKind.i64.wrap ((i : Int) + 1) = ((i + 1 : Nat) : Int) := by rw [wrap64_id (by omega) (by omega)]; rfl
                have hz : (n.ks.zip n.vs).take (i + 1) = (n.ks.zip n.vs).take i ++ [(n.ks[i], n.vs[i])] := by
                  rw [List.take_succ_eq_append_getElem (by rw [List.length_zip]; omega), List.getElem_zip]
                have hz' : ((n.ks.zip n.vs).map itP).take (i + 1) = ((n.ks.zip n.vs).map itP).take i ++ [itP (n.ks[i], n.vs[i])] := by rw [← List.map_take, hz, List.map_append, List.map_take]; rfl
                simp [c8, c8v, wi, stB, stR, stoO, thO]
                repeat' apply And.intro
                all_goals first | omega | exact fun x h => (by obtain ⟨y, _, rfl⟩ := List.mem_map.1 (List.mem_of_mem_take h); rfl) | skip
                refine ⟨i + 1, by omega, by omega, leN_of [(4, 5)] (by simp [hz', stB, stR, stoO, thO])⟩
              · have hz : ((n.ks.zip n.vs).map itP).take i = (n.ks.zip n.vs).map itP := List.take_of_length_le (by rw [List.length_map, List.length_zip]; omega)
                simp [c8, hz, stB, stR, stoO, thO, Try.results17, q0, q1, q2, q3, itsP]
                exact ⟨[], by simp⟩
          · have c5' : (0 : Int) < (d : Int) := by omega
            have c5'' : 0 < d := by omega
            have hfw : fewK d n = 2 := by simp [fewK, c5, c4]
            by_cases c6 : n.ks.length < 2
            · have c6' : ((n.ks.length : Int) < 2) := by omega
              rw [if_neg (by rw [hfw]; omega)] at hRR
              subst hRR
              simp [c6', c4, c0, c5', c5'', stB, stR, stoO, thO, Try.results17, q0, q1, q2, q3]
              exact ⟨[], by simp⟩
            have c6' : ¬ ((n.ks.length : Int) < 2) := by omega
            simp [c6', c4, c0, c5', c5'', stB, stR, stoO, thO]

            refine aw_loop (fun i : Nat => i ≤ n.ks.length ∧ fitB n lo hi = (n.ks.drop i).all (winB lo hi))
              (fun i => [(0, .obj 0 0), (1, .p (.int page)), (2, .p (.int d)), (3, .p (.str lo)), (4, .p (.str (hi.getD []))), (5, .p (.bool hi.isSome)), (16, .obj 3 0), (19, .p (.int i))])
              (fun _ => ⟨(3, ⟨56, 3, [.p (.bool true), .p (.sl (n.ks.map PC.str)), .p (.sl (n.vs.map PC.int))]⟩) :: stB 0 1 2 S, stR 1, 4⟩) (fun i => n.ks.length - i) 0 ⟨by simp, rfl⟩ _ (AS.le_refl _ _) (leN_id (by simp [stB, stR, stoO, thO])) ?_
            rintro i ⟨g1, g2⟩
            by_cases c7 : i < n.ks.length
            · rw [List.drop_eq_getElem_cons c7, List.all_cons] at g2
              have hkx := hn.2.2 n.ks[i] (List.getElem_mem c7)
              have wi : IntKind.i64.wrap ((i : Int) + 1) = ((i + 1 : Nat) : Int) := by rw [wrap64_id (by omega) (by omega)]; rfl
              simp [c7, stB, stR, stoO, thO]
              refine pcall_of (less_p n.ks[i] lo (by omega) (by omega)) (by simp) ?_
              cases b1 : Op.bytesLess n.ks[i] lo with
              | true =>
                have hf : fitB n lo hi = false := by rw [g2]; simp [winB, b1]
                rw [if_neg (by rw [hf]; simp)] at hRR; subst hRR
                simp [stB, stR, stoO, thO, Try.results17, q0, q1, q2, q3]
                exact ⟨[], by simp⟩
              | false =>
                cases hi with
                | none =>
                  simp [c7, wi, stB, stR, stoO, thO]
                  exact ⟨i + 1, ⟨by omega, by rw [g2]; simp [winB, b1]⟩, by omega, leN_id (by simp [stB, stR, stoO, thO])⟩
                | some h =>
                  have hhx := hhi h rfl
                  simp [c7, stB, stR, stoO, thO]
                  refine pcall_of (less_p n.ks[i] h (by omega) (by omega)) (by simp) ?_
                  cases b2 : Op.bytesLess n.ks[i] h with
                  | false =>
                    have hf : fitB n lo (some h) = false := by rw [g2]; simp [winB, b1, b2]
                    rw [if_neg (by rw [hf]; simp)] at hRR; subst hRR
                    simp [stB, stR, stoO, thO, Try.results17, q0, q1, q2, q3]
                    exact ⟨[], by simp⟩
                  | true =>
                    simp [wi, stB, stR, stoO, thO]
                    exact ⟨i + 1, ⟨by omega, by rw [g2]; simp [winB, b1, b2]⟩, by omega, leN_id (by simp [stB, stR, stoO, thO])⟩
            · have hf : fitB n lo hi = true := by rw [g2, List.drop_eq_nil_of_le (by omega)]; rfl
              have c7' : ¬ (i : Int) < (n.ks.length : Int) := by omega
              rw [if_pos ⟨c, by rw [hfw]; omega, hf⟩] at hRR
              rw [if_pos c4] at hRR
              subst hRR
              simp [c7, stB, stR, stoO, thO]
              refine aw_loop (fun i : Nat => i ≤ n.ks.length)
                (fun i => [(2, .p (.int d)), (16, .obj 3 0), (20, .full [PC.int page]), (21, .own 4 (((n.ks.zip n.vs).take i).map itP)), (22, .p (.int i))])
                (fun _ => ⟨(3, ⟨56, 3, [.p (.bool true), .p (.sl (n.ks.map PC.str)), .p (.sl (n.vs.map PC.int))]⟩) :: stB 0 1 2 S, (4, 69, 2) :: stR 1, 5⟩) (fun i => n.ks.length - i) 0 (by simp) _ (le_own 21 69 2 [] (.inr ⟨rfl, by simp⟩)) (leN_id (by simp [stB, stR, stoO, thO, Tb.addRw])) ?_
              rintro i g1
              by_cases c8 : i < n.ks.length
              · have c8v : i < n.vs.length := by omega
                have wi : IntKind.i64.wrap ((i : Int) + 1) = ((i + 1 : Nat) : Int) := by rw [wrap64_id (by omega) (by omega)]; rfl
                have hz : (n.ks.zip n.vs).take (i + 1) = (n.ks.zip n.vs).take i ++ [(n.ks[i], n.vs[i])] := by
                  rw [List.take_succ_eq_append_getElem (by rw [List.length_zip]; omega), List.getElem_zip]
                have hz' : ((n.ks.zip n.vs).map itP).take (i + 1) = ((n.ks.zip n.vs).map itP).take i ++ [itP (n.ks[i], n.vs[i])] := by rw [← List.map_take, hz, List.map_append, List.map_take]; rfl
                simp [c8, c8v, wi, stB, stR, stoO, thO]
                repeat' apply And.intro
                all_goals first | omega | exact fun x h => (by obtain ⟨y, _, rfl⟩ := List.mem_map.1 (List.mem_of_mem_take h); rfl) | skip
                refine ⟨i + 1, by omega, by omega, leN_of [(4, 5)] (by simp [hz', stB, stR, stoO, thO])⟩
              · have hz : ((n.ks.zip n.vs).map itP).take i = (n.ks.zip n.vs).map itP := List.take_of_length_le (by rw [List.length_map, List.length_zip]; omega)
                simp [c8, hz, stB, stR, stoO, thO, Try.results17, q0, q1, q2, q3, itsP]
                exact ⟨[], by simp⟩
        · have c4' : n.lf = false := Bool.eq_false_iff.2 c4
          have hfw : fewK d n = 1 := by simp [fewK, c4']
          by_cases c6 : n.ks.length < 1
          · have c6' : ((n.ks.length : Int) < 1) := by omega
            rw [if_neg (by rw [hfw]; omega)] at hRR
            subst hRR
            simp [c6', c4', c0, stB, stR, stoO, thO, Try.results17, q0, q1, q2, q3]
            exact ⟨[], by simp⟩
          have c6' : ¬ ((n.ks.length : Int) < 1) := by omega
          simp [c6', c4', c0, stB, stR, stoO, thO]

          refine aw_loop (fun i : Nat => i ≤ n.ks.length ∧ fitB n lo hi = (n.ks.drop i).all (winB lo hi))
            (fun i => [(0, .obj 0 0), (1, .p (.int page)), (2, .p (.int d)), (3, .p (.str lo)), (4, .p (.str (hi.getD []))), (5, .p (.bool hi.isSome)), (16, .obj 3 0), (19, .p (.int i))])
            (fun _ => ⟨(3, ⟨56, 3, [.p (.bool false), .p (.sl (n.ks.map PC.str)), .p (.sl (n.vs.map PC.int))]⟩) :: stB 0 1 2 S, stR 1, 4⟩) (fun i => n.ks.length - i) 0 ⟨by simp, rfl⟩ _ (AS.le_refl _ _) (leN_id (by simp [stB, stR, stoO, thO])) ?_
          rintro i ⟨g1, g2⟩
          by_cases c7 : i < n.ks.length
          · rw [List.drop_eq_getElem_cons c7, List.all_cons] at g2
            have hkx := hn.2.2 n.ks[i] (List.getElem_mem c7)
            have wi : IntKind.i64.wrap ((i : Int) + 1) = ((i + 1 : Nat) : Int) := by rw [wrap64_id (by omega) (by omega)]; rfl
            simp [c7, stB, stR, stoO, thO]
            refine pcall_of (less_p n.ks[i] lo (by omega) (by omega)) (by simp) ?_
            cases b1 : Op.bytesLess n.ks[i] lo with
            | true =>
              have hf : fitB n lo hi = false := by rw [g2]; simp [winB, b1]
              rw [if_neg (by rw [hf]; simp)] at hRR; subst hRR
              simp [stB, stR, stoO, thO, Try.results17, q0, q1, q2, q3]
              exact ⟨[], by simp⟩
            | false =>
              cases hi with
              | none =>
                simp [c7, wi, stB, stR, stoO, thO]
                exact ⟨i + 1, ⟨by omega, by rw [g2]; simp [winB, b1]⟩, by omega, leN_id (by simp [stB, stR, stoO, thO])⟩
              | some h =>
                have hhx := hhi h rfl
                simp [c7, stB, stR, stoO, thO]
                refine pcall_of (less_p n.ks[i] h (by omega) (by omega)) (by simp) ?_
                cases b2 : Op.bytesLess n.ks[i] h with
                | false =>
                  have hf : fitB n lo (some h) = false := by rw [g2]; simp [winB, b1, b2]
                  rw [if_neg (by rw [hf]; simp)] at hRR; subst hRR
                  simp [stB, stR, stoO, thO, Try.results17, q0, q1, q2, q3]
                  exact ⟨[], by simp⟩
                | true =>
                  simp [wi, stB, stR, stoO, thO]
                  exact ⟨i + 1, ⟨by omega, by rw [g2]; simp [winB, b1, b2]⟩, by omega, leN_id (by simp [stB, stR, stoO, thO])⟩
          · have hf : fitB n lo hi = true := by rw [g2, List.drop_eq_nil_of_le (by omega)]; rfl
            have c7' : ¬ (i : Int) < (n.ks.length : Int) := by omega
            rw [if_pos ⟨c, by rw [hfw]; omega, hf⟩] at hRR
            rw [if_neg c4] at hRR
            simp [c7, stB, stR, stoO, thO]
            rw [c4'] at hvl
            simp only [Bool.false_eq_true, if_false] at hvl
            refine aw_loop (fun y : Nat × (Int × List Int × Its) => y.1 ≤ n.vs.length ∧ (if y.1 = n.vs.length then RR = some y.2 else RR = foldR (refT S f (d + 1)) (loAt lo n.ks y.1) (n.ks.drop y.1) hi (n.vs.drop y.1) y.2) ∧ y.2.2.1.length ≤ 5000 ∧ y.2.2.2.length ≤ 4 * y.2.2.1.length)
              (fun y => [(0, .obj 0 0), (2, .p (.int d)), (3, .p (.str lo)), (4, .p (.str (hi.getD []))), (5, .p (.bool hi.isSome)), (16, .obj 3 0), (20, .own 4 (y.2.2.1.map PC.int)), (21, .own 5 (y.2.2.2.map itP)), (23, .p (.int y.2.1)), (24, .p (.int y.1))])
              (fun _ => ⟨(3, ⟨56, 3, [.p (.bool false), .p (.sl (n.ks.map PC.str)), .p (.sl (n.vs.map PC.int))]⟩) :: stB 0 1 2 S, (5, 69, 2) :: (4, 3, 1) :: stR 1, 6⟩) (fun y => n.vs.length - y.1) (0, (-1, [page], [])) ⟨by simp, by rw [if_neg (by omega)]; simpa [loAt] using hRR, by simp, by simp⟩ _ ((le_own 20 3 1 [PC.int page] (.inl (by simp))).trans (le_own 21 69 2 [] (.inr ⟨rfl, by simp⟩))) (leN_id (by simp [stB, stR, stoO, thO, Tb.addRw])) ?_
            rintro ⟨i, a⟩ ⟨g1, g2, g3, g4⟩
            simp only at g1 g2 g3 g4
            have wi : IntKind.i64.wrap ((i : Int) + 1) = ((i + 1 : Nat) : Int) := by rw [wrap64_id (by omega) (by omega)]; rfl
            have w11 : IntKind.i64.wrap 1 = 1 := by decide
            have wd : IntKind.i64.wrap ((d : Int) + 1) = ((d + 1 : Nat) : Int) := by rw [wrap64_id (by omega) (by omega)]; rfl
            by_cases c8 : i < n.vs.length
            · rw [if_neg (by omega), List.drop_eq_getElem_cons c8] at g2
              have hvv := hr.vals n.vs[i] (List.getElem_mem c8)
              rcases (by omega : i < n.ks.length ∨ i = n.ks.length) with hik | hik
              · rw [List.drop_eq_getElem_cons hik] at g2
                simp only [foldR] at g2
                rcases Nat.eq_zero_or_pos i with h0 | h0
                · subst h0
                  have hz : (0 : Nat) < n.vs.length := c8
                  have hl0 : loAt lo n.ks 0 = lo := rfl
                  rw [hl0] at g2
                  cases hq : refT S f (d + 1) n.vs[0] lo (some n.ks[0]) with
                  | none =>
                    rw [hq] at g2
                    simp only at g2
                    subst g2
                    have hc := ih (d + 1) n.vs[0] lo (some n.ks[0]) ⟨by have := hvv.1; omega, by have := hvv.2; omega⟩ (by omega) hlo (fun k e => by injection e with e; subst e; exact (hn.2.2 _ (List.getElem_mem hik)))
                    rw [hq] at hc
                    simp [hik, hz, wd, w11, stB, stR, stoO, thO]
                    refine rcall_of [0, 1, 2] hc (by simp) (by simp) (by simp [stB, stR, stoO, thO, sub1]) (by simp [stB, stR, stoO, thO, sub1]) ?_
                    simp [hik, hz, wd, w11, stB, stR, stoO, thO, refP, Try.results17, q0, q1, q2, q3]
                    exact ⟨[], by simp⟩
                  | some r =>
                    rw [hq] at g2
                    simp only at g2
                    have hrl := refT_len S f (d + 1) _ _ _ r hq
                    have hc := ih (d + 1) n.vs[0] lo (some n.ks[0]) ⟨by have := hvv.1; omega, by have := hvv.2; omega⟩ (by omega) hlo (fun k e => by injection e with e; subst e; exact (hn.2.2 _ (List.getElem_mem hik)))
                    rw [hq] at hc
                    simp [hik, hz, wd, w11, stB, stR, stoO, thO]
                    refine rcall_of [0, 1, 2] hc (by simp) (by simp) (by simp [stB, stR, stoO, thO, sub1]) (by simp [stB, stR, stoO, thO, sub1]) ?_
                    by_cases d1 : 0 ≤ a.1 ∧ r.1 ≠ a.1
                    · rw [if_pos (.inl d1)] at g2
                      subst g2
                      have d2 : (r.1 != a.1) = true := by simpa using d1.2
                      simp [hik, hz, wd, w11, d1.1, d2, stB, stR, stoO, thO, refP, Try.results17, q0, q1, q2, q3]
                      exact ⟨[], by simp⟩
                    · by_cases d3 : 5000 < a.2.1.length + r.2.1.length
                      · rw [if_pos (.inr d3)] at g2
                        subst g2
                        have d3' : (5000 : Int) < (a.2.1.length : Int) + (r.2.1.length : Int) := by omega
                        have w5 : IntKind.i64.wrap ((a.2.1.length : Int) + (r.2.1.length : Int)) = (a.2.1.length : Int) + (r.2.1.length : Int) := wrap64_id (by omega) (by omega)
                        by_cases d4 : 0 ≤ a.1
                        · have d2 : (r.1 != a.1) = false := by have := fun h => d1 ⟨d4, h⟩; simpa using Classical.not_not.1 this
                          simp [hik, hz, wd, w11, d4, d2, d3', w5, stB, stR, stoO, thO, refP, Try.results17, q0, q1, q2, q3]
                          exact ⟨[], by simp⟩
                        · simp [hik, hz, wd, w11, d4, d3', w5, stB, stR, stoO, thO, refP, Try.results17, q0, q1, q2, q3]
                          exact ⟨[], by simp⟩
                      · rw [if_neg (by rintro (h | h); exact d1 h; exact d3 h)] at g2
                        have d3' : ¬ (5000 : Int) < (a.2.1.length : Int) + (r.2.1.length : Int) := by omega
                        have w5 : IntKind.i64.wrap ((a.2.1.length : Int) + (r.2.1.length : Int)) = (a.2.1.length : Int) + (r.2.1.length : Int) := wrap64_id (by omega) (by omega)
                        by_cases d4 : 0 ≤ a.1
                        · have d2 : (r.1 != a.1) = false := by have := fun h => d1 ⟨d4, h⟩; simpa using Classical.not_not.1 this
                          simp [hik, hz, wd, w11, d4, d2, d3', w5, wi, stB, stR, stoO, thO, refP]
                          repeat' apply And.intro
                          all_goals first | omega | (intro y k v _ e; subst e; rfl) | skip
                          refine ⟨1, r.1, a.2.1 ++ r.2.1, a.2.2 ++ r.2.2, ⟨by omega, ?_, by simp only [List.length_append]; omega, by simp only [List.length_append]; omega⟩, by omega, leN_of [(4, 6), (5, 7)] (by simp [w11, stB, stR, stoO, thO])⟩
                          rw [if_neg (by omega), g2]; simp [loAt, List.getD_eq_getElem?_getD, hik]
                        · simp [hik, hz, wd, w11, d4, d3', w5, wi, stB, stR, stoO, thO, refP]
                          repeat' apply And.intro
                          all_goals first | omega | (intro y k v _ e; subst e; rfl) | skip
                          refine ⟨1, r.1, a.2.1 ++ r.2.1, a.2.2 ++ r.2.2, ⟨by omega, ?_, by simp only [List.length_append]; omega, by simp only [List.length_append]; omega⟩, by omega, leN_of [(4, 6), (5, 7)] (by simp [w11, stB, stR, stoO, thO])⟩
                          rw [if_neg (by omega), g2]; simp [loAt, List.getD_eq_getElem?_getD, hik]
                · have wm : IntKind.i64.wrap ((i : Int) - 1) = ((i - 1 : Nat) : Int) := by rw [wrap64_id (by omega) (by omega)]; omega
                  have hi1 : i - 1 < n.ks.length := by omega
                  have hlo' : loAt lo n.ks i = n.ks[i - 1] := by
                    obtain ⟨j, rfl⟩ : ∃ j, i = j + 1 := ⟨i - 1, by omega⟩
                    simp only [loAt, List.getD_eq_getElem?_getD]; rw [List.getElem?_eq_getElem (by omega)]; rfl
                  rw [hlo'] at g2
                  cases hq : refT S f (d + 1) n.vs[i] n.ks[i - 1] (some n.ks[i]) with
                  | none =>
                    rw [hq] at g2
                    simp only at g2
                    subst g2
                    have hc := ih (d + 1) n.vs[i] n.ks[i - 1] (some n.ks[i]) ⟨by have := hvv.1; omega, by have := hvv.2; omega⟩ (by omega) (hn.2.2 _ (List.getElem_mem hi1)) (fun k e => by injection e with e; subst e; exact (hn.2.2 _ (List.getElem_mem hik)))
                    rw [hq] at hc
                    simp [hik, h0, c8, wm, hi1, wd, stB, stR, stoO, thO]
                    refine rcall_of [0, 1, 2] hc (by simp) (by simp) (by simp [stB, stR, stoO, thO, sub1]) (by simp [stB, stR, stoO, thO, sub1]) ?_
                    simp [hik, h0, c8, wm, hi1, wd, stB, stR, stoO, thO, refP, Try.results17, q0, q1, q2, q3]
                    exact ⟨[], by simp⟩
                  | some r =>
                    rw [hq] at g2
                    simp only at g2
                    have hrl := refT_len S f (d + 1) _ _ _ r hq
                    have hc := ih (d + 1) n.vs[i] n.ks[i - 1] (some n.ks[i]) ⟨by have := hvv.1; omega, by have := hvv.2; omega⟩ (by omega) (hn.2.2 _ (List.getElem_mem hi1)) (fun k e => by injection e with e; subst e; exact (hn.2.2 _ (List.getElem_mem hik)))
                    rw [hq] at hc
                    simp [hik, h0, c8, wm, hi1, wd, stB, stR, stoO, thO]
                    refine rcall_of [0, 1, 2] hc (by simp) (by simp) (by simp [stB, stR, stoO, thO, sub1]) (by simp [stB, stR, stoO, thO, sub1]) ?_
                    by_cases d1 : 0 ≤ a.1 ∧ r.1 ≠ a.1
                    · rw [if_pos (.inl d1)] at g2
                      subst g2
                      have d2 : (r.1 != a.1) = true := by simpa using d1.2
                      simp [hik, h0, c8, wm, hi1, wd, d1.1, d2, stB, stR, stoO, thO, refP, Try.results17, q0, q1, q2, q3]
                      exact ⟨[], by simp⟩
                    · by_cases d3 : 5000 < a.2.1.length + r.2.1.length
                      · rw [if_pos (.inr d3)] at g2
                        subst g2
                        have d3' : (5000 : Int) < (a.2.1.length : Int) + (r.2.1.length : Int) := by omega
                        have w5 : IntKind.i64.wrap ((a.2.1.length : Int) + (r.2.1.length : Int)) = (a.2.1.length : Int) + (r.2.1.length : Int) := wrap64_id (by omega) (by omega)
                        by_cases d4 : 0 ≤ a.1
                        · have d2 : (r.1 != a.1) = false := by have := fun h => d1 ⟨d4, h⟩; simpa using Classical.not_not.1 this
                          simp [hik, h0, c8, wm, hi1, wd, d4, d2, d3', w5, stB, stR, stoO, thO, refP, Try.results17, q0, q1, q2, q3]
                          exact ⟨[], by simp⟩
                        · simp [hik, h0, c8, wm, hi1, wd, d4, d3', w5, stB, stR, stoO, thO, refP, Try.results17, q0, q1, q2, q3]
                          exact ⟨[], by simp⟩
                      · rw [if_neg (by rintro (h | h); exact d1 h; exact d3 h)] at g2
                        have d3' : ¬ (5000 : Int) < (a.2.1.length : Int) + (r.2.1.length : Int) := by omega
                        have w5 : IntKind.i64.wrap ((a.2.1.length : Int) + (r.2.1.length : Int)) = (a.2.1.length : Int) + (r.2.1.length : Int) := wrap64_id (by omega) (by omega)
                        by_cases d4 : 0 ≤ a.1
                        · have d2 : (r.1 != a.1) = false := by have := fun h => d1 ⟨d4, h⟩; simpa using Classical.not_not.1 this
                          simp [hik, h0, c8, wm, hi1, wd, d4, d2, d3', w5, wi, stB, stR, stoO, thO, refP]
                          repeat' apply And.intro
                          all_goals first | omega | (intro y k v _ e; subst e; rfl) | skip
                          refine ⟨i + 1, r.1, a.2.1 ++ r.2.1, a.2.2 ++ r.2.2, ⟨by omega, ?_, by simp only [List.length_append]; omega, by simp only [List.length_append]; omega⟩, by omega, leN_of [(4, 6), (5, 7)] (by simp [w11, stB, stR, stoO, thO])⟩
                          rw [if_neg (by omega), g2]; simp [loAt, List.getD_eq_getElem?_getD, hik]
                        · simp [hik, h0, c8, wm, hi1, wd, d4, d3', w5, wi, stB, stR, stoO, thO, refP]
                          repeat' apply And.intro
                          all_goals first | omega | (intro y k v _ e; subst e; rfl) | skip
                          refine ⟨i + 1, r.1, a.2.1 ++ r.2.1, a.2.2 ++ r.2.2, ⟨by omega, ?_, by simp only [List.length_append]; omega, by simp only [List.length_append]; omega⟩, by omega, leN_of [(4, 6), (5, 7)] (by simp [w11, stB, stR, stoO, thO])⟩
                          rw [if_neg (by omega), g2]; simp [loAt, List.getD_eq_getElem?_getD, hik]
              · have hdr : n.ks.drop i = [] := by rw [hik, List.drop_length]
                rw [hdr] at g2
                simp only [foldR] at g2
                have h0 : 0 < i := by have := hr.inner c4'; omega
                have wm : IntKind.i64.wrap ((i : Int) - 1) = ((i - 1 : Nat) : Int) := by rw [wrap64_id (by omega) (by omega)]; omega
                have hi1 : i - 1 < n.ks.length := by omega
                have hlo' : loAt lo n.ks i = n.ks[i - 1] := by
                  obtain ⟨j, rfl⟩ : ∃ j, i = j + 1 := ⟨i - 1, by omega⟩
                  simp only [loAt, List.getD_eq_getElem?_getD]; rw [List.getElem?_eq_getElem (by omega)]; rfl
                have hik' : ¬ (i : Int) < (n.ks.length : Int) := by omega
                rw [hlo'] at g2
                cases hq : refT S f (d + 1) n.vs[i] n.ks[i - 1] hi with
                | none =>
                  rw [hq] at g2
                  simp only at g2
                  subst g2
                  have hc := ih (d + 1) n.vs[i] n.ks[i - 1] hi ⟨by have := hvv.1; omega, by have := hvv.2; omega⟩ (by omega) (hn.2.2 _ (List.getElem_mem hi1)) hhi
                  rw [hq] at hc
                  simp [hik', h0, c8, wm, hi1, wd, stB, stR, stoO, thO]
                  refine rcall_of [0, 1, 2] hc (by simp) (by simp) (by simp [stB, stR, stoO, thO, sub1]) (by simp [stB, stR, stoO, thO, sub1]) ?_
                  simp [hik', h0, c8, wm, hi1, wd, stB, stR, stoO, thO, refP, Try.results17, q0, q1, q2, q3]
                  exact ⟨[], by simp⟩
                | some r =>
                  rw [hq] at g2
                  simp only at g2
                  have hrl := refT_len S f (d + 1) _ _ _ r hq
                  have hc := ih (d + 1) n.vs[i] n.ks[i - 1] hi ⟨by have := hvv.1; omega, by have := hvv.2; omega⟩ (by omega) (hn.2.2 _ (List.getElem_mem hi1)) hhi
                  rw [hq] at hc
                  simp [hik', h0, c8, wm, hi1, wd, stB, stR, stoO, thO]
                  refine rcall_of [0, 1, 2] hc (by simp) (by simp) (by simp [stB, stR, stoO, thO, sub1]) (by simp [stB, stR, stoO, thO, sub1]) ?_
                  by_cases d1 : 0 ≤ a.1 ∧ r.1 ≠ a.1
                  · rw [if_pos (.inl d1)] at g2
                    subst g2
                    have d2 : (r.1 != a.1) = true := by simpa using d1.2
                    simp [hik', h0, c8, wm, hi1, wd, d1.1, d2, stB, stR, stoO, thO, refP, Try.results17, q0, q1, q2, q3]
                    exact ⟨[], by simp⟩
                  · by_cases d3 : 5000 < a.2.1.length + r.2.1.length
                    · rw [if_pos (.inr d3)] at g2
                      subst g2
                      have d3' : (5000 : Int) < (a.2.1.length : Int) + (r.2.1.length : Int) := by omega
                      have w5 : IntKind.i64.wrap ((a.2.1.length : Int) + (r.2.1.length : Int)) = (a.2.1.length : Int) + (r.2.1.length : Int) := wrap64_id (by omega) (by omega)
                      by_cases d4 : 0 ≤ a.1
                      · have d2 : (r.1 != a.1) = false := by have := fun h => d1 ⟨d4, h⟩; simpa using Classical.not_not.1 this
                        simp [hik', h0, c8, wm, hi1, wd, d4, d2, d3', w5, stB, stR, stoO, thO, refP, Try.results17, q0, q1, q2, q3]
                        exact ⟨[], by simp⟩
                      · simp [hik', h0, c8, wm, hi1, wd, d4, d3', w5, stB, stR, stoO, thO, refP, Try.results17, q0, q1, q2, q3]
                        exact ⟨[], by simp⟩
                    · rw [if_neg (by rintro (h | h); exact d1 h; exact d3 h)] at g2
                      have d3' : ¬ (5000 : Int) < (a.2.1.length : Int) + (r.2.1.length : Int) := by omega
                      have w5 : IntKind.i64.wrap ((a.2.1.length : Int) + (r.2.1.length : Int)) = (a.2.1.length : Int) + (r.2.1.length : Int) := wrap64_id (by omega) (by omega)
                      by_cases d4 : 0 ≤ a.1
                      · have d2 : (r.1 != a.1) = false := by have := fun h => d1 ⟨d4, h⟩; simpa using Classical.not_not.1 this
                        simp [hik', h0, c8, wm, hi1, wd, d4, d2, d3', w5, wi, stB, stR, stoO, thO, refP]
                        repeat' apply And.intro
                        all_goals first | omega | (intro y k v _ e; subst e; rfl) | skip
                        refine ⟨i + 1, r.1, a.2.1 ++ r.2.1, a.2.2 ++ r.2.2, ⟨by omega, ?_, by simp only [List.length_append]; omega, by simp only [List.length_append]; omega⟩, by omega, leN_of [(4, 6), (5, 7)] (by simp [w11, stB, stR, stoO, thO])⟩
                        rw [if_pos (by omega), g2]
                      · simp [hik', h0, c8, wm, hi1, wd, d4, d3', w5, wi, stB, stR, stoO, thO, refP]
                        repeat' apply And.intro
                        all_goals first | omega | (intro y k v _ e; subst e; rfl) | skip
                        refine ⟨i + 1, r.1, a.2.1 ++ r.2.1, a.2.2 ++ r.2.2, ⟨by omega, ?_, by simp only [List.length_append]; omega, by simp only [List.length_append]; omega⟩, by omega, leN_of [(4, 6), (5, 7)] (by simp [w11, stB, stR, stoO, thO])⟩
                        rw [if_pos (by omega), g2]
            · rw [if_pos (by omega)] at g2
              subst g2
              simp [c8, stB, stR, stoO, thO, Try.results17, q0, q1, q2, q3, itsP]
              exact ⟨[], by simp⟩
end Go.Av

/-! part W42 -/
namespace Go.Av
open Go.Proofs Go.Tre
set_option maxRecDepth 100000
theorem ids4b : Ids4 1 0 2 3 4 := ⟨by omega, ⟨by omega, by omega, by omega, by omega, by omega, by omega⟩, by omega, by omega, by omega⟩
set_option maxHeartbeats 4000000 in
theorem whole26 {b : Nat} {S : Sto} {root : Int} {its : Its} (hc : SInv b S root its) (hio : ItsOk its) (hb : b ≤ 100000000) (hl : its.length ≤ 4000) :
    GenC Try.prog 26 [.obj 0 0, .obj 1 0, .p (itsP its)] ⟨trB 1 0 2 3 S root, stR 2, 4⟩ (.p (.bool true)) ⟨trB 1 0 2 3 S root, stR 2, 4⟩ := by
  have hS := hc.ok.ok (by omega)
  refine gen_of_awT (rs := [_]) [] [] [] [(6, (.one 0 (.one 1 (.one 2 (.one 3 (.br 4 (.br 5 (.one 6 (.one 7 (.one 8 (.one 9 (.one 10 (.one 11 (.one 12 (.one 13 (.one 14 .lf))))))))) .lf) .lf))))))] mixed Try.func26 rfl (by kernel_rfl) (by kernel_rfl) (by simp [Try.ntmps26]) rfl ?_
  by_cases cr : root = 0
  · subst cr
    obtain ⟨hz, hno⟩ := inv_zero hc.inv
    subst hz
    have hpg : pagesG S 0 = ([], 0) := by simp [pagesG]
    have hck : checkM S 0 = 0 := by simp [checkM]
    have hcz := count_none hc.inv.wf hno
    simp
    refine gcall_of0 (pages27 1 0 2 3 4 ids4b S hS 0 hc.rt [] hpg (by simp)) (by simp) (by simp [trB, stB, stR, treO, stoO, thO, sub1]) (by simp [sub1]) rfl ?_
    simp [trB, stB, stR, treO, stoO, thO]
    refine gcall_of0 (check18 1 0 2 3 4 ids4b S hS 0 hc.rt) (by simp) (by simp [trB, stB, stR, treO, stoO, thO, sub1]) (by simp [sub1]) rfl ?_
    simp [hck, trB, stB, stR, treO, stoO, thO]
    refine gcall_of0 (root10 1 0 2 3 4 ids4b S 0) (by simp) (by simp [trB, stB, stR, treO, stoO, thO, sub1]) (by simp [sub1]) rfl ?_
    simp [trB, stB, stR, treO, stoO, thO]
    refine gcall_of0 (count19 0 2 3 4 ids4b.i3 S hS) (by simp) (by simp [trB, stB, stR, treO, stoO, thO, sub1]) (by simp [sub1]) rfl ?_
    simp [hcz, trB, stB, stR, treO, stoO, thO, Try.results26]
    exact ⟨[], by simp⟩
  · obtain ⟨h, pg, e1, e2, e3, e4, e5, e6, e7⟩ := inv_ref hc.inv cr hl
    have cr' : (root == 0) = false := by simpa using cr
    have ht := tree17 S hS 40 0 root [] none hc.rt (by omega) (by simp) (by simp)
    rw [e1] at ht
    have hon : onceB (root :: pg) = true := by simpa [onceB] using e4
    have ho := once21 (root :: pg) (by simp only [List.length_cons]; omega)
    rw [hon] at ho
    simp
    refine gcall_of0 (pages27 1 0 2 3 4 ids4b S hS root hc.rt (root :: pg) e2 (by simp only [List.length_cons]; omega)) (by simp) (by simp [trB, stB, stR, treO, stoO, thO, sub1]) (by simp [sub1]) rfl ?_
    simp [trB, stB, stR, treO, stoO, thO]
    refine gcall_of0 (check18 1 0 2 3 4 ids4b S hS root hc.rt) (by simp) (by simp [trB, stB, stR, treO, stoO, thO, sub1]) (by simp [sub1]) rfl ?_
    simp [e3, trB, stB, stR, treO, stoO, thO]
    refine gcall_of0 (root10 1 0 2 3 4 ids4b S root) (by simp) (by simp [trB, stB, stR, treO, stoO, thO, sub1]) (by simp [sub1]) rfl ?_
    simp [cr', trB, stB, stR, treO, stoO, thO]
    refine gcall_of0 (root10 1 0 2 3 4 ids4b S root) (by simp) (by simp [trB, stB, stR, treO, stoO, thO, sub1]) (by simp [sub1]) rfl ?_
    simp [trB, stB, stR, treO, stoO, thO]
    refine rcall_of [0, 2, 3] ht (by simp) (by simp) (by simp [trB, stB, stR, treO, stoO, thO, sub1]) (by simp [trB, stB, stR, treO, stoO, thO, sub1]) ?_
    simp [trB, stB, stR, treO, stoO, thO, refP]
    refine pcall_of (same16 its its hio hio) (by simp) ?_
    simp [trB, stB, stR, treO, stoO, thO]
    refine gcall_of0 (count19 0 2 3 4 ids4b.i3 S hS) (by simp) (by simp [trB, stB, stR, treO, stoO, thO, sub1]) (by simp [sub1]) rfl ?_
    simp [e5, trB, stB, stR, treO, stoO, thO]
    refine pcall_of ho (by simp) ?_
    simp [trB, stB, stR, treO, stoO, thO]
    obtain ⟨L, hL⟩ : ∃ L, L = root :: pg := ⟨_, rfl⟩
    have hm : PC.int root :: List.map PC.int pg = L.map PC.int := by rw [hL]; rfl
    have hLl : L.length ≤ 4000 := by rw [hL]; simp only [List.length_cons]; omega
    simp only [hm]
    refine aw_loop (fun i : Nat => i ≤ L.length) (fun i => [(7, .p (.sl (L.map PC.int))), (10, .p (.sl (L.map PC.int))), (13, .p (.int i))])
      (fun _ => ⟨trB 1 0 2 3 S root, stR 2, 4⟩) (fun i => L.length - i) 0 (by simp) _ (AS.le_refl _ _) (leN_of [] (by simp [trB, stB, stR, treO, stoO, thO])) ?_
    intro i hi
    by_cases ci : i < L.length
    · have wi : IntKind.i64.wrap ((i : Int) + 1) = ((i + 1 : Nat) : Int) := by rw [wrap64_id (by omega) (by omega)]; rfl
      simp [ci, wi, trB, stB, stR, treO, stoO, thO]
      exact ⟨i + 1, by omega, by omega, leN_of [] (by simp [trB, stB, stR, treO, stoO, thO])⟩
    · simp [ci, trB, stB, stR, treO, stoO, thO, Try.results26]
      exact ⟨[], by simp⟩
end Go.Av

/-! part W37 -/
namespace Go.Av
open Go.Proofs

theorem cellsT49 : Try.prog.cellsOf 49 = 1 := by kernel_rfl
theorem cellsT48 : Try.prog.cellsOf 48 = 1 := by kernel_rfl
def keysS (x : PC) : Prop := ∃ l : List (List UInt8), x = .sl (l.map PC.str)
def intsS (x : PC) : Prop := ∃ l : List Int, x = .sl (l.map PC.int) ∧ ∀ v ∈ l, i64b v
theorem rdKs : RdU Try.prog 48 keysS :=
  (rd_slice Try.underlying48 (by rw [cellsT9]; omega) (rd_string Try.underlying9)).mono fun x ⟨xs, h, _, hv⟩ => by
    obtain ⟨l, rfl⟩ := list_of (f := PC.str) (fun y hy => by obtain ⟨s, e, _⟩ := hv y hy; exact ⟨s, e⟩)
    exact ⟨l, h⟩
theorem ints_of {xs : List PC} (h : ∀ x ∈ xs, ∃ n : Int, x = .int n ∧ i64b n) : ∃ l : List Int, xs = l.map PC.int ∧ ∀ v ∈ l, i64b v := by
  induction xs with
  | nil => exact ⟨[], rfl, by simp⟩
  | cons x xs ih =>
    obtain ⟨l, rfl, hl⟩ := ih fun y hy => h y (by simp [hy])
    obtain ⟨a, rfl, ha⟩ := h x (by simp)
    refine ⟨a :: l, rfl, fun v hv => ?_⟩
    rcases List.mem_cons.1 hv with rfl | hv
    · exact ha
    · exact hl v hv
theorem rdIs : RdU Try.prog 49 intsS :=
  (rd_slice Try.underlying49 (by rw [cellsT3]; omega) (rd_int Try.underlying3)).mono fun x ⟨xs, h, _, hv⟩ => by
    obtain ⟨l, rfl, hl⟩ := ints_of (fun y hy => by obtain ⟨n, e, hw⟩ := hv y hy; exact ⟨n, e, bounds_i64 hw⟩)
    exact ⟨l, h, hl⟩
theorem rd48 : RdV Try.prog 48 keysS :=
  rv_one (by rw [Try.underlying48]; simp) (by rw [Try.underlying48]; simp) rdKs.c (by rintro x ⟨l, rfl⟩ b xs h; cases h)
theorem rd49 : RdV Try.prog 49 intsS :=
  rv_one (by rw [Try.underlying49]; simp) (by rw [Try.underlying49]; simp) rdIs.c (by rintro x ⟨l, rfl, _⟩ b xs h; cases h)
theorem law5n {x y : PC} (hx : keysS x) (hy : intsS y) : PureC Try.prog 5 [x, y] (.bool true) := by
  obtain ⟨l, rfl⟩ := hx
  obtain ⟨a, rfl, _⟩ := hy
  exact law5 l a
end Go.Av

/-! part W43 -/
namespace Go.Av
open Go.Proofs Go.Tre
set_option maxRecDepth 100000
theorem rput_parts {its : Its} {key : Key} {v : Int} : place (rput its key v) key = place its key ∧ found (rput its key v) key = true := by
  have hp := place_spec its key
  have hle := place_le its key
  have e : place (rput its key v) key = place its key := by
    unfold rput
    rw [place_app hp.1, List.length_take, Nat.min_eq_left hle]
    simp [place, bl_irrefl]
  refine ⟨e, ?_⟩
  unfold found
  rw [e]
  have : (rput its key v)[place its key]? = some (key, v) := by
    unfold rput
    rw [List.getElem?_append_right (by simp; omega), List.length_take, Nat.min_eq_left hle, Nat.sub_self]; rfl
  rw [this]; simp
theorem rput_back {its : Its} {key : Key} {v : Int} (h : (rget its key).2 = true) : rput (rput its key v) key (rget its key).1 = its := by
  have hf : found its key = true := by rw [← rget_had]; exact h
  have hlt := found_lt hf
  have hle := place_le its key
  obtain ⟨e1, e2⟩ := rput_parts (its := its) (key := key) (v := v)
  have hk : its[place its key] = (key, (rget its key).1) := by
    have h1 : its[place its key]? = some its[place its key] := List.getElem?_eq_getElem hlt
    have h2 : its[place its key].1 = key := by unfold found at hf; rw [h1] at hf; simpa using hf
    have h3 : (rget its key).1 = its[place its key].2 := by unfold rget; rw [if_pos hf]; simp only [valAt]; rw [h1]
    exact Prod.ext h2 h3.symm
  have ht : (rput its key v).take (place its key) = its.take (place its key) := by unfold rput; exact List.take_left' (by simp; omega)
  have hd : (rput its key v).drop (place its key + 1) = its.drop (place its key + 1) := by
    unfold rput
    rw [if_pos hf, ← List.drop_drop, List.drop_left' (by simp; omega)]; rfl
  have e : ∀ l w, rput l key w = l.take (place l key) ++ (key, w) :: l.drop (if found l key then place l key + 1 else place l key) := fun _ _ => rfl
  rw [e (rput its key v), e1, e2, if_pos rfl, ht, hd, ← hk]
  conv => rhs; rw [← List.take_append_drop (place its key) its, List.drop_eq_getElem_cons hlt]
theorem rdel_back {its : Its} {key : Key} {v : Int} (h : (rget its key).2 = false) : rdel (rput its key v) key = its := by
  have hf : found its key = false := by rw [← rget_had]; exact h
  have hle := place_le its key
  obtain ⟨e1, e2⟩ := rput_parts (its := its) (key := key) (v := v)
  have ht : (rput its key v).take (place its key) = its.take (place its key) := by unfold rput; exact List.take_left' (by simp; omega)
  have hd : (rput its key v).drop (place its key + 1) = its.drop (place its key) := by
    unfold rput
    rw [if_neg (by rw [hf]; decide), ← List.drop_drop, List.drop_left' (by simp; omega)]; rfl
  unfold rdel
  rw [e1, e2, if_pos rfl, ht, hd, List.take_append_drop]
def _root_.Go.Tre.Sto.cut (S : Sto) (n i : Nat) : Sto := ⟨S.nd, S.th.take n ++ List.replicate (i - n) false ++ S.th.drop i, S.sv, S.fl⟩
def _root_.Go.Tre.Sto.arm (S : Sto) (sv fl : Int) : Sto := ⟨S.nd, S.th, sv, fl⟩
theorem arm_get {S : Sto} {a b p : Int} : (S.arm a b).get p = S.get p := rfl
theorem inv_congr {S S' : Sto} {root : Int} {its : Its} (h : Inv S root its) (hg : ∀ p, S'.get p = S.get p) (hw : S'.Wf) : Inv S' root its := by
  refine ⟨hw, ?_⟩
  rcases h.tree with ⟨h1, h2, h3⟩ | ⟨h', n, pg, e1, e2, e3, e4, e5, e6⟩
  · exact .inl ⟨h1, h2, fun p => by rw [hg]; exact h3 p⟩
  · exact .inr ⟨h', n, pg, by rw [hg]; exact e1, e2, e3, has_mono (Q := fun _ => True) (fun p n _ e => by rw [hg]; exact e) h' e4 (fun _ _ => trivial), e5, fun p => by rw [hg]; exact e6 p⟩
theorem arm_inv {S : Sto} {root : Int} {its : Its} (h : Inv S root its) (a b : Int) : Inv (S.arm a b) root its := inv_congr h (fun _ => rfl) h.wf
theorem arm_ok {b : Nat} {S : Sto} (h : SOkN b S) {a k : Int} (ha : 0 ≤ a ∧ a ≤ b) : SOkN b (S.arm a k) := ⟨h.wf, h.len, h.nds, ha⟩
theorem cut_ok {b : Nat} {S : Sto} (h : SOkN b S) {n i : Nat} (hn : n ≤ i) (hi : i ≤ S.nd.length) : SOkN b (S.cut n i) := by
  have hw : S.th.length = S.nd.length := h.wf
  exact ⟨by simp [Sto.Wf, Sto.cut]; omega, h.len, h.nds, h.sv⟩
theorem cut_get {S S' : Sto} (w : S.Wf) (hx : ∃ X, S'.nd = S.nd ++ X ∧ S'.th = S.th ++ List.replicate X.length true) (p : Int) : (S'.cut S.nd.length S'.nd.length).get p = S.get p := by
  obtain ⟨X, h1, h2⟩ := hx
  have hw : S.th.length = S.nd.length := w
  have e1 : (S'.cut S.nd.length S'.nd.length).nd = S.nd ++ X := h1
  have e2 : (S'.cut S.nd.length S'.nd.length).th = S.th ++ List.replicate X.length false := by
    have e : (S'.cut S.nd.length S'.nd.length).th = S'.th.take S.nd.length ++ List.replicate (S'.nd.length - S.nd.length) false ++ S'.th.drop S'.nd.length := rfl
    rw [e, h1, h2, List.take_left' hw, List.drop_eq_nil_of_le (by simp; omega)]
    simp
  unfold Sto.get
  rw [e1, e2]
  by_cases c : 1 ≤ p ∧ p ≤ S.nd.length
  · have hp : p.toNat - 1 < S.nd.length := by omega
    have hp' : p.toNat - 1 < S.th.length := by omega
    have e3 : (S.th ++ List.replicate X.length false).getD (p.toNat - 1) false = S.th.getD (p.toNat - 1) false := by
      rw [List.getD_eq_getElem?_getD, List.getD_eq_getElem?_getD, List.getElem?_append_left hp']
    rw [e3, List.getElem?_append_left hp]
    by_cases c2 : S.th.getD (p.toNat - 1) false = true
    · rw [if_pos ⟨c.1, by simp; omega, c2⟩, if_pos ⟨c.1, c.2, c2⟩]
    · rw [if_neg (fun h => c2 h.2.2), if_neg (fun h => c2 h.2.2)]
  · have hr : (if 1 ≤ p ∧ p ≤ S.nd.length ∧ S.th.getD (p.toNat - 1) false = true then S.nd[p.toNat - 1]? else none) = none := if_neg (fun h => c ⟨h.1, h.2.1⟩)
    rw [hr]
    by_cases c1 : 1 ≤ p
    · have hp : S.th.length ≤ p.toNat - 1 := by omega
      have e3 : (S.th ++ List.replicate X.length false).getD (p.toNat - 1) false = false := by
        rw [List.getD_eq_getElem?_getD, List.getElem?_append_right hp]
        rcases Nat.lt_or_ge (p.toNat - 1 - S.th.length) X.length with h | h
        · rw [List.getElem?_replicate_of_lt h]; rfl
        · rw [List.getElem?_eq_none (by simpa using h)]; rfl
      rw [e3, if_neg (fun h => by simpa using h.2.2)]
    · rw [if_neg (fun h => c1 h.1)]
def failT (S : Sto) (root : Int) (key : Key) (k was : Int) (ok : Bool) : Sto × Int :=
  if (putT (S.arm 0 k) root key 7).e = 0 then
    if ok = true then ((putT ((putT (S.arm 0 k) root key 7).s.arm (putT (S.arm 0 k) root key 7).s.sv 0) (putT (S.arm 0 k) root key 7).root key was).s, (putT ((putT (S.arm 0 k) root key 7).s.arm (putT (S.arm 0 k) root key 7).s.sv 0) (putT (S.arm 0 k) root key 7).root key was).root)
    else ((delT ((putT (S.arm 0 k) root key 7).s.arm (putT (S.arm 0 k) root key 7).s.sv 0) (putT (S.arm 0 k) root key 7).root key).s, (delT ((putT (S.arm 0 k) root key 7).s.arm (putT (S.arm 0 k) root key 7).s.sv 0) (putT (S.arm 0 k) root key 7).root key).root)
  else if (putT (S.arm 0 k) root key 7).e = 2 then ((putT (S.arm 0 k) root key 7).s.arm (putT (S.arm 0 k) root key 7).s.sv 0, (putT (S.arm 0 k) root key 7).root)
  else (((putT (S.arm 0 k) root key 7).s.arm (putT (S.arm 0 k) root key 7).s.sv 0).cut S.nd.length (putT (S.arm 0 k) root key 7).s.nd.length, (putT (S.arm 0 k) root key 7).root)
/-- the three ways in which it goes -/
structure Fl (b : Nat) (S : Sto) (root : Int) (its : Its) (key : Key) (R : Ret) : Prop where
  ok : SOkN (b + 100) (R.s.arm R.s.sv 0)
  rt : i64b R.root
  le : S.nd.length ≤ R.s.nd.length
  sv : R.s.sv ≤ b + 100
  or : (R.e = 0 ∧ (R.was, R.had) = rget its key ∧ kOk key ∧ SInv (b + 101) (R.s.arm R.s.sv 0) R.root (rput its key 7)) ∨
    (R.e = 2 ∧ SInv (b + 101) (R.s.arm R.s.sv 0) R.root its) ∨
    (R.e = 30 ∧ R.root = root ∧ R.was = 0 ∧ R.had = false ∧ SInv (b + 101) ((R.s.arm R.s.sv 0).cut S.nd.length R.s.nd.length) root its)
theorem fl_of {b : Nat} {S : Sto} {root : Int} {its : Its} (h : SInv b S root its) (hb : b + 2300 ≤ 100000000) {key : Key} (hk : key.length ≤ 1000000) (k : Int) : Fl b S root its key (putT (S.arm 0 k) root key 7) := by
  have hlen := h.len
  have hl := h.ok.len
  have ha := arm_ok (k := k) h.ok (a := 0) ⟨by omega, by omega⟩
  have hpo := put_ok ha h.rt (by omega) hk 7
  have hN : (S.arm 0 k).N + 200 < 1099511627776 := by show S.nd.length + 200 < _; omega
  by_cases hkey : kOk key
  · have hv : vOk 7 := ⟨by omega, by omega⟩
    have hp := put_inv (arm_inv h.inv 0 k) hkey hv hN (by omega)
    have hrl : (rput its key 7).length ≤ its.length + 1 := by
      unfold rput; split <;> simp <;> omega
    generalize putT (S.arm 0 k) root key 7 = R at *
    have hok := arm_ok (k := 0) hpo.1 (a := R.s.sv) hpo.1.sv
    refine ⟨hok, hpo.2, ?_, by have := hpo.1.sv.2; omega, ?_⟩
    · obtain ⟨⟨X, hX⟩, _, _⟩ := hp.gr
      rw [hX]; simp [Sto.arm]
    · rcases hp.or with ⟨e1, e2, e3, e4, e5, _⟩ | ⟨e1, e2, e3⟩
      · refine .inr (.inr ⟨e1, e2, e3, e4, ?_⟩)
        obtain ⟨⟨X, h1, h2⟩, _, _⟩ := e5
        have hle : S.nd.length ≤ R.s.nd.length := by rw [h1]; simp [Sto.arm]
        have hco := cut_ok hok (n := S.nd.length) (i := R.s.nd.length) hle (Nat.le_refl _)
        exact ⟨hco.up (by omega), h.rt, inv_congr h.inv (fun p => cut_get (S := S) (S' := R.s.arm R.s.sv 0) h.inv.wf ⟨X, h1, h2⟩ p) hco.wf, rfl, by omega⟩
      · exact .inl ⟨e1, e2, hkey, hok.up (by omega), hpo.2, arm_inv e3 _ _, rfl, by omega⟩
  · have hq : keyB key 7 = false := by
      cases hq : keyB key 7 with
      | false => rfl
      | true => exact absurd (keyB_iff.1 hq).1 hkey
    have he : putT (S.arm 0 k) root key 7 = ⟨S.arm 0 k, root, 0, false, 2⟩ := by unfold putT; rw [if_neg (by rw [hq]; decide)]
    rw [he] at hpo
    have hok := arm_ok (k := 0) hpo.1 (a := 0) ⟨by omega, by omega⟩
    constructor
    all_goals rw [he]
    · exact hok
    · exact h.rt
    · exact Nat.le_refl _
    · show (0 : Int) ≤ _; omega
    · exact .inr (.inl ⟨rfl, hok.up (by omega), h.rt, arm_inv (arm_inv h.inv 0 k) 0 0, rfl, by omega⟩)
end Go.Av

/-! part W44 -/
namespace Go.Av
open Go.Proofs Go.Tre
set_option maxRecDepth 100000
@[simp] theorem arm_nd {S : Sto} {a b : Int} : (S.arm a b).nd = S.nd := (rfl)
@[simp] theorem arm_th {S : Sto} {a b : Int} : (S.arm a b).th = S.th := (rfl)
@[simp] theorem arm_sv {S : Sto} {a b : Int} : (S.arm a b).sv = a := (rfl)
@[simp] theorem arm_fl {S : Sto} {a b : Int} : (S.arm a b).fl = b := (rfl)
@[simp] theorem cut_nd {S : Sto} {n i : Nat} : (S.cut n i).nd = S.nd := (rfl)
@[simp] theorem cut_sv {S : Sto} {n i : Nat} : (S.cut n i).sv = S.sv := (rfl)
@[simp] theorem cut_fl {S : Sto} {n i : Nat} : (S.cut n i).fl = S.fl := (rfl)
def kk (a : ActT) : Int := IntKind.i64.wrap (1 + (IntKind.i64.wrap (a.b.tmod 3 + 3)).tmod 3)
theorem kk_eq (a : ActT) : IntKind.i64.wrap (1 + (IntKind.i64.wrap (a.b.tmod 3 + 3)).tmod 3) = kk a := rfl
theorem rget_val {its : Its} {key : Key} (hv : ∀ x ∈ its, vOk x.2) : vOk (rget its key).1 := by
  unfold rget
  split
  · rename_i hf
    have hlt := found_lt hf
    have h1 : its[place its key]? = some its[place its key] := List.getElem?_eq_getElem hlt
    simp only [valAt]; rw [h1]
    exact hv _ (List.getElem_mem hlt)
  · exact ⟨by simp, by simp⟩
theorem ids45 : Ids4 1 0 4 5 6 := ⟨by omega, ⟨by omega, by omega, by omega, by omega, by omega, by omega⟩, by omega, by omega, by omega⟩
theorem cut_set (S : Sto) (n i : Nat) (hn : n ≤ i) (hi : i < S.th.length) : List.take i (List.map (AV.p ∘ PC.bool) (S.cut n i).th) ++ AV.p (PC.bool false) :: List.drop (i + 1) (List.map (AV.p ∘ PC.bool) (S.cut n i).th) = List.map (AV.p ∘ PC.bool) (S.cut n (i + 1)).th := by
  have e : (S.cut n i).th = (S.th.take n ++ List.replicate (i - n) false) ++ S.th.drop i := rfl
  have e' : (S.cut n (i + 1)).th = S.th.take n ++ List.replicate (i + 1 - n) false ++ S.th.drop (i + 1) := rfl
  have hl : (S.th.take n ++ List.replicate (i - n) false).length = i := by simp; omega
  have h1 : List.take i (S.cut n i).th = S.th.take n ++ List.replicate (i - n) false := by rw [e]; exact List.take_left' hl
  have h2 : List.drop (i + 1) (S.cut n i).th = S.th.drop (i + 1) := by
    rw [e, ← List.drop_drop, List.drop_left' hl, List.drop_drop]
  rw [← List.map_take, ← List.map_drop, h1, h2, e', show i + 1 - n = (i - n) + 1 by omega, List.replicate_succ']
  simp
set_option maxHeartbeats 4000000 in
theorem fails25 {b : Nat} {S : Sto} {root : Int} {its : Its} (hc : SInv b S root its) (hb : b + 2300 ≤ 100000000) (hl : its.length ≤ 4000) (hv : ∀ x ∈ its, vOk x.2) (a : ActT) (hk : a.k.length ≤ 1000000) :
    ∃ S' root', SInv (b + 201) S' root' its ∧ GenC Try.prog 25 [.obj 0 0, .obj 1 0, .p (actP a)] ⟨trB 1 0 2 3 S root, stR 2, 4⟩ (.p (.bool true)) ⟨trB 1 0 4 5 S' root', stR 4, 6⟩ := by
  have hlen := hc.len
  have hF := fl_of hc hb hk (kk a)
  have hA := arm_ok (k := kk a) hc.ok (a := 0) ⟨by omega, by omega⟩
  have hget := get22 1 0 2 3 4 ids4b (S.arm 0 (kk a)) (hA.ok (by omega)) root hc.rt a.k
  have hgl := get_law (arm_inv hc.inv 0 (kk a)) a.k hl
  have hput := put11 1 0 2 3 4 b ids4b (S.arm 0 (kk a)) hA (by omega) root hc.rt a.k 7 hk
  obtain ⟨R, hR⟩ : ∃ R, R = putT (S.arm 0 (kk a)) root a.k 7 := ⟨_, rfl⟩
  rw [← hR] at hF
  obtain ⟨hok, hrt, hle, hsv, h | h | h⟩ := hF
  · obtain ⟨e1, e2, hko, hs⟩ := h
    have e2w : R.was = (rget its a.k).1 := by rw [← e2]
    have e2h : R.had = (rget its a.k).2 := by rw [← e2]
    by_cases hg : (rget its a.k).2 = true
    · have hp2 := (put_s hs (by omega) hko (rget_val (key := a.k) hv)).1
      rw [rput_back hg] at hp2
      refine ⟨_, _, hp2.up (by omega), ?_⟩
      refine gen_of_awT (rs := [_]) [] [(1, [(1, .f [1]), (6, .r 1)])] [(1, 0)] [(2, (.one 0 (.one 1 (.one 2 (.one 3 (.one 4 (.one 5 (.one 6 (.one 7 (.one 8 (.one 9 (.br 10 (.one 11 (.one 12 (.br 13 .lf .lf))) .lf))))))))))))] mixed Try.func25 rfl (by kernel_rfl) (by kernel_rfl) (by simp [Try.ntmps25]) rfl ?_
      simp
      refine fcall_of0 (root10s 1 0 4 (by omega) (by omega) root) (by simp) (by simp [treO, sub1]) (by simp [sub1]) rfl (by simp) ?_
      simp [kk_eq]
      refine gcall_of0 hget (by simp) (by simp [trB, stB, stR, treO, stoO, thO, sub1]) (by simp [sub1]) rfl ?_
      rw [hgl]
      simp [trB, stB, stR, treO, stoO, thO]
      refine gcall_of0 hput (by simp) (by simp [trB, stB, stR, treO, stoO, thO, sub1]) (by simp [sub1]) rfl ?_
      rw [← hR]
      simp [e1, e2w, e2h, hg, trB, stB, stR, treO, stoO, thO]
      refine gcall_of0 (put11 1 0 4 5 6 _ ids45 (R.s.arm R.s.sv 0) hs.ok (by omega) R.root hrt a.k (rget its a.k).1 hk) (by simp) (by simp [trB, stB, stR, treO, stoO, thO, sub1]) (by simp [sub1]) rfl ?_
      simp [e1, e2w, e2h, hg, trB, stB, stR, treO, stoO, thO, Try.results25]
      exact ⟨[(4, 6), (5, 7)], by simp; intro a b h; omega⟩
    · have hg' : (rget its a.k).2 = false := by simpa using hg
      have hp2 := (del_s hs (by omega) a.k).1
      rw [rdel_back hg'] at hp2
      have hz : (rget its a.k).1 = 0 := by
        unfold rget at hg' ⊢
        split
        · rename_i hf; rw [if_pos hf] at hg'; cases hg'
        · rfl
      refine ⟨_, _, hp2.up (by omega), ?_⟩
      refine gen_of_awT (rs := [_]) [] [(1, [(1, .f [1]), (6, .r 1)])] [(1, 0)] [(2, (.one 0 (.one 1 (.one 2 (.one 3 (.one 4 (.one 5 (.one 6 (.one 7 (.one 8 (.one 9 (.br 10 (.one 11 (.one 12 (.br 13 .lf .lf))) .lf))))))))))))] mixed Try.func25 rfl (by kernel_rfl) (by kernel_rfl) (by simp [Try.ntmps25]) rfl ?_
      simp
      refine fcall_of0 (root10s 1 0 4 (by omega) (by omega) root) (by simp) (by simp [treO, sub1]) (by simp [sub1]) rfl (by simp) ?_
      simp [kk_eq]
      refine gcall_of0 hget (by simp) (by simp [trB, stB, stR, treO, stoO, thO, sub1]) (by simp [sub1]) rfl ?_
      rw [hgl]
      simp [trB, stB, stR, treO, stoO, thO]
      refine gcall_of0 hput (by simp) (by simp [trB, stB, stR, treO, stoO, thO, sub1]) (by simp [sub1]) rfl ?_
      rw [← hR]
      simp [e1, e2w, e2h, hg', trB, stB, stR, treO, stoO, thO]
      refine gcall_of0 (delete13 1 0 4 5 6 _ ids45 (R.s.arm R.s.sv 0) hs.ok (by omega) R.root hrt a.k) (by simp) (by simp [trB, stB, stR, treO, stoO, thO, sub1]) (by simp [sub1]) rfl ?_
      simp [e1, e2w, e2h, hg', trB, stB, stR, treO, stoO, thO, Try.results25]
      exact ⟨[(4, 6), (5, 7)], by simp; intro a b h; omega⟩
  · obtain ⟨e1, hs⟩ := h
    refine ⟨_, _, hs.up (by omega), ?_⟩
    refine gen_of_awT (rs := [_]) [] [(1, [(1, .f [1]), (6, .r 1)])] [(1, 0)] [(2, (.one 0 (.one 1 (.one 2 (.one 3 (.one 4 (.one 5 (.one 6 (.one 7 (.one 8 (.one 9 (.br 10 (.one 11 (.one 12 (.br 13 .lf .lf))) .lf))))))))))))] mixed Try.func25 rfl (by kernel_rfl) (by kernel_rfl) (by simp [Try.ntmps25]) rfl ?_
    simp
    refine fcall_of0 (root10s 1 0 4 (by omega) (by omega) root) (by simp) (by simp [treO, sub1]) (by simp [sub1]) rfl (by simp) ?_
    simp [kk_eq]
    refine gcall_of0 hget (by simp) (by simp [trB, stB, stR, treO, stoO, thO, sub1]) (by simp [sub1]) rfl ?_
    rw [hgl]
    simp [trB, stB, stR, treO, stoO, thO]
    refine gcall_of0 hput (by simp) (by simp [trB, stB, stR, treO, stoO, thO, sub1]) (by simp [sub1]) rfl ?_
    rw [← hR]
    simp [e1, trB, stB, stR, treO, stoO, thO, Try.results25]
    exact ⟨[], by simp⟩
  · obtain ⟨e1, e2, e3, e4, hs⟩ := h
    have hwf : R.s.th.length = R.s.nd.length := hok.wf
    have hnl : R.s.nd.length ≤ b + 100 := hok.len
    refine ⟨_, _, hs.up (by omega), ?_⟩
    refine gen_of_awT (rs := [_]) [] [(1, [(1, .f [1]), (6, .r 1)])] [(1, 0)] [(2, (.one 0 (.one 1 (.one 2 (.one 3 (.one 4 (.one 5 (.one 6 (.one 7 (.one 8 (.one 9 (.br 10 (.one 11 (.one 12 (.br 13 .lf .lf))) .lf))))))))))))] mixed Try.func25 rfl (by kernel_rfl) (by kernel_rfl) (by simp [Try.ntmps25]) rfl ?_
    simp
    refine fcall_of0 (root10s 1 0 4 (by omega) (by omega) root) (by simp) (by simp [treO, sub1]) (by simp [sub1]) rfl (by simp) ?_
    simp [kk_eq]
    refine gcall_of0 hget (by simp) (by simp [trB, stB, stR, treO, stoO, thO, sub1]) (by simp [sub1]) rfl ?_
    rw [hgl]
    simp [trB, stB, stR, treO, stoO, thO]
    refine gcall_of0 hput (by simp) (by simp [trB, stB, stR, treO, stoO, thO, sub1]) (by simp [sub1]) rfl ?_
    rw [← hR]
    simp [e1, e2, e3, e4, trB, stB, stR, treO, stoO, thO]
    refine aw_loop (fun i : Nat => S.nd.length ≤ i ∧ i ≤ R.s.nd.length)
      (fun i => [(0, .obj 0 0), (1, .obj 1 0), (7, .p (.int root)), (12, .p (.int 0)), (13, .p (.bool false)), (14, .p (.int 30)), (15, .p (.int i))])
      (fun i => ⟨trB 1 0 4 5 ((R.s.arm R.s.sv 0).cut S.nd.length i) root, stR 4, 6⟩) (fun i => R.s.nd.length - i) S.nd.length ⟨Nat.le_refl _, hle⟩ _ (AS.le_refl _ _) (leN_of [] (by simp [Sto.cut, trB, stB, stR, treO, stoO, thO])) ?_
    rintro i ⟨i1, i2⟩
    have hcl : ((R.s.arm R.s.sv 0).cut S.nd.length i).th.length = R.s.th.length := by simp [Sto.cut]; omega
    by_cases ci : i < R.s.nd.length
    · have wi : IntKind.i64.wrap ((i : Int) + 1) = ((i + 1 : Nat) : Int) := by rw [wrap64_id (by omega) (by omega)]; rfl
      have hit : i < R.s.th.length := by omega
      have hcs := cut_set (R.s.arm R.s.sv 0) S.nd.length i i1 hit
      simp [ci, hit, hcl, wi, trB, stB, stR, treO, stoO, thO]
      exact ⟨by omega, i + 1, ⟨by omega, by omega⟩, by omega, leN_of [] (by simp [hcs]; simp [Sto.cut]; omega)⟩
    · have ei : i = R.s.nd.length := by omega
      subst ei
      simp [trB, stB, stR, treO, stoO, thO]
      refine gcall_of0 (root10s 1 0 6 (by omega) (by omega) root) (by simp) (by simp [trB, stB, stR, treO, stoO, thO, sub1]) (by simp [sub1]) rfl ?_
      simp [trB, stB, stR, treO, stoO, thO, Try.results25]
      exact ⟨[], by simp⟩
end Go.Av

/-! part W45 -/
namespace Go.Av
open Go.Proofs Go.Tre
set_option maxRecDepth 100000
structure L7Ok (n : Nat) (y : L5) : Prop where
  j : y.j ≤ n
  c : SInv (1 + 201 * y.j) y.S y.root y.its
  k : ItsOk y.its
  l : y.its.length ≤ y.j
  v : ∀ x ∈ y.its, vOk x.2
theorem ids5 : Ids4 1 0 2 3 5 := ⟨by omega, ⟨by omega, by omega, by omega, by omega, by omega, by omega⟩, by omega, by omega, by omega⟩
theorem rscan_ok {its : Its} {k : Key} {m : Int} (h : ItsOk its) : ItsOk (rscan its k m) := by
  have hsub : ∀ x ∈ rscan its k m, x ∈ its := fun x hx => List.mem_of_mem_drop (List.mem_of_mem_take hx)
  refine ⟨?_, fun x hx => h.keys x (hsub x hx)⟩
  have := h.len
  unfold rscan
  rw [List.length_take, List.length_drop]; omega
theorem rscan_le {its : Its} {k : Key} {m : Int} : (rscan its k m).length ≤ its.length := by
  unfold rscan
  rw [List.length_take, List.length_drop]; omega
set_option maxHeartbeats 8000000 in
theorem law7 (acts : List ActT) : PureC Try.prog 7 [.sl (acts.map actP)] (.bool true) := by
  refine pure_of_aw (ys := [_]) [37] [] [] mixed Try.func7 rfl (by kernel_rfl) (by kernel_rfl) (by simp [Try.ntmps7]) rfl ?_
  simp
  refine pcall_of awake8 (by simp) ?_
  by_cases c1 : 120 < acts.length
  · have c1' : (120 : Int) < (acts.length : Int) := by omega
    simp [c1, c1']
    refine pcall_of awake8 (by simp) ?_
    simp [Try.results7]
  have c1' : ¬ (120 : Int) < (acts.length : Int) := by omega
  simp [c1, c1']
  refine gcall_of0 (new9 0 1 (by omega) 0) (by simp) (by simp [sub1]) (by simp [sub1]) rfl ?_
  simp [treO]
  refine aw_loop (fun y : L5 => L7Ok acts.length y)
    (fun y => [(0, .p (.sl (acts.map actP))), (3, .obj 0 0), (4, .obj 1 0), (5, .p (itsP y.its)), (6, .p (.int y.j))])
    (fun y => ⟨trB 1 0 2 3 y.S y.root, stR 2, 4⟩) (fun y => acts.length - y.j) ⟨0, ⟨[], [], 0, 0⟩, 0, []⟩ ⟨by simp, s_zero, ⟨by simp, by simp⟩, by simp, by simp⟩ _
    ((le_ownO 0 0 56 3 ⟨30, 4, [.p .nil, .p .nil, .p (.int 0), .p (.int 0)]⟩ [] (by simp) (by simp)).trans (le_voidO 0 1 4 1 ⟨30, 4, [.own 2 [], .p .nil, .p (.int 0), .p (.int 0)]⟩ (by simp [Tb.setOb, Tb.addRw]) (by simp)))
    (leN_of [] (by simp [trB, stB, stR, treO, stoO, thO, Tb.setOb, Tb.addRw, Tb.addOb])) ?_
  rintro ⟨j, S, root, its⟩ ⟨hj, hc, hio, hln, hv⟩
  simp only at hj hc hio hln hv
  have hN := hc.ok.len
  have hS := hc.ok.ok (by omega)
  have wj : IntKind.i64.wrap ((j : Int) + 1) = ((j + 1 : Nat) : Int) := by rw [wrap64_id (by omega) (by omega)]; rfl
  by_cases cn : j < acts.length
  · have cn' : (j : Int) < (acts.length : Int) := by omega
    obtain ⟨x, hx⟩ : ∃ x, acts[j] = x := ⟨_, rfl⟩
    by_cases k2 : 300 < x.k.length
    · have k2' : (300 : Int) < (x.k.length : Int) := by omega
      simp [cn, hx, k2', k2, trB, stB, stR, treO, stoO, thO, Try.results7]
    have k2' : ¬ (300 : Int) < (x.k.length : Int) := by omega
    have hkl : x.k.length ≤ 1000000 := by omega
    rcases (by omega : x.k.length < 1 ∨ (1 ≤ x.k.length ∧ x.k.length ≤ 100) ∨ 100 < x.k.length) with r1 | r1 | r1
    · have r1c : ¬ (1 : Int) ≤ (x.k.length : Int) := by omega
      by_cases q0 : x.a = 0
      · have q0' : (x.a == 0) = true := by simpa using q0
        have hpe : putT S root x.k x.b = ⟨S, root, 0, false, 2⟩ := by
          unfold putT; rw [if_neg (fun h => by have := keyB_iff.1 h; obtain ⟨⟨u1, u2⟩, u3, u4⟩ := this; omega)]
        simp [cn, hx, k2', k2, r1c, q0, q0', trB, stB, stR, treO, stoO, thO]
        refine gcall_of0 (put11 1 0 2 3 5 _ ids5 S hc.ok (by omega) root hc.rt x.k x.b hkl) (by simp) (by simp [trB, stB, stR, treO, stoO, thO, sub1]) (by simp [sub1]) rfl ?_
        rw [hpe]
        simp [cn, hx, r1c, q0, q0', trB, stB, stR, treO, stoO, thO]
        refine rcall_of [0, 1, 5, 6] (whole26 hc hio (by omega) (by omega)) (by simp) (by simp) (by simp [trB, stB, stR, treO, stoO, thO, sub1]) (by simp [trB, stB, stR, treO, stoO, thO, sub1]) ?_
        simp [wj, trB, stB, stR, treO, stoO, thO]
        exact ⟨⟨j + 1, S, root, its⟩, ⟨by simp only; omega, SInv.up hc (by simp only; omega), hio, by simp only; omega, hv⟩, by simp only; omega, leN_of [(2, 5), (3, 6)] (by simp [trB, stB, stR, treO, stoO, thO])⟩
      have q0' : (x.a == 0) = false := by simpa using q0
      by_cases q1 : x.a = 1
      · have q1' : (x.a == 1) = true := by simpa using q1
        have hd := del_s hc (by omega) x.k
        have e1 := hd.2.1
        have e2w : (delT S root x.k).was = (rget its x.k).1 := by rw [← hd.2.2]
        have e2h : (delT S root x.k).had = (rget its x.k).2 := by rw [← hd.2.2]
        have hdl := rdel_len its x.k
        have hdio := its_del (key := x.k) hio (by omega)
        simp [cn, hx, k2', k2, r1c, q1, q1', trB, stB, stR, treO, stoO, thO]
        refine gcall_of0 (delete13 1 0 2 3 5 _ ids5 S hc.ok (by omega) root hc.rt x.k) (by simp) (by simp [trB, stB, stR, treO, stoO, thO, sub1]) (by simp [sub1]) rfl ?_
        simp [trB, stB, stR, treO, stoO, thO]
        refine pcall_of (rdel14 its x.k hio hkl) (by simp) ?_
        simp [e1, e2w, e2h, trB, stB, stR, treO, stoO, thO]
        refine rcall_of [0, 1, 5, 6] (whole26 hd.1 hdio (by omega) (by omega)) (by simp) (by simp) (by simp [trB, stB, stR, treO, stoO, thO, sub1]) (by simp [trB, stB, stR, treO, stoO, thO, sub1]) ?_
        simp [wj, trB, stB, stR, treO, stoO, thO]
        exact ⟨⟨j + 1, (delT S root x.k).s, (delT S root x.k).root, rdel its x.k⟩, ⟨by simp only; omega, SInv.up hd.1 (by simp only; omega), hdio, by simp only; omega, (fun y hy => hv y (mem_rdel hy))⟩, by simp only; omega, leN_of [(2, 5), (3, 6)] (by simp [trB, stB, stR, treO, stoO, thO])⟩
      have q1' : (x.a == 1) = false := by simpa using q1
      by_cases q2 : x.a = 2
      · have q2' : (x.a == 2) = true := by simpa using q2
        have hgl := get_law hc.inv x.k (by omega)
        simp [cn, hx, k2', k2, r1c, q2, q2', trB, stB, stR, treO, stoO, thO]
        refine gcall_of0 (get22 1 0 2 3 5 ids5 S hS root hc.rt x.k) (by simp) (by simp [trB, stB, stR, treO, stoO, thO, sub1]) (by simp [sub1]) rfl ?_
        rw [hgl]
        simp [trB, stB, stR, treO, stoO, thO]
        refine pcall_of (rget23 its x.k hio hkl) (by simp) ?_
        simp [trB, stB, stR, treO, stoO, thO]
        refine rcall_of [0, 1, 2, 3] (whole26 hc hio (by omega) (by omega)) (by simp) (by simp) (by simp [trB, stB, stR, treO, stoO, thO, sub1]) (by simp [trB, stB, stR, treO, stoO, thO, sub1]) ?_
        simp [wj, trB, stB, stR, treO, stoO, thO]
        exact ⟨⟨j + 1, S, root, its⟩, ⟨by simp only; omega, SInv.up hc (by simp only; omega), hio, by simp only; omega, hv⟩, by simp only; omega, leN_of [] (by simp [trB, stB, stR, treO, stoO, thO])⟩
      have q2' : (x.a == 2) = false := by simpa using q2
      by_cases q3 : x.a = 3
      · have q3' : (x.a == 3) = true := by simpa using q3
        have hsl := scanM_law hc.inv x.k x.b (by omega)
        have hrl := rscan_le (its := its) (k := x.k) (m := x.b)
        have hri := rscan_ok (k := x.k) (m := x.b) hio
        simp [cn, hx, k2', k2, r1c, q3, q3', trB, stB, stR, treO, stoO, thO]
        refine gcall_of0 (scan15 1 0 2 3 5 ids5 S hS root hc.rt x.k x.b _ hsl (by omega)) (by simp) (by simp [trB, stB, stR, treO, stoO, thO, sub1]) (by simp [sub1]) rfl ?_
        simp [trB, stB, stR, treO, stoO, thO]
        refine pcall_of (rscan24 its x.k x.b hio hkl) (by simp) ?_
        simp [trB, stB, stR, treO, stoO, thO]
        refine pcall_of (same16 _ _ hri hri) (by simp) ?_
        simp [trB, stB, stR, treO, stoO, thO]
        refine rcall_of [0, 1, 2, 3] (whole26 hc hio (by omega) (by omega)) (by simp) (by simp) (by simp [trB, stB, stR, treO, stoO, thO, sub1]) (by simp [trB, stB, stR, treO, stoO, thO, sub1]) ?_
        simp [wj, trB, stB, stR, treO, stoO, thO]
        exact ⟨⟨j + 1, S, root, its⟩, ⟨by simp only; omega, SInv.up hc (by simp only; omega), hio, by simp only; omega, hv⟩, by simp only; omega, leN_of [] (by simp [trB, stB, stR, treO, stoO, thO])⟩
      have q3' : (x.a == 3) = false := by simpa using q3
      obtain ⟨S', root', hf, hcf⟩ := fails25 hc (by omega) (by omega) hv x hkl
      simp [cn, hx, k2', k2, r1c, q0', q1', q2', q3', trB, stB, stR, treO, stoO, thO]
      refine rcall_of [0, 1, 2, 3] hcf (by simp) (by simp) (by simp [trB, stB, stR, treO, stoO, thO, sub1]) (by simp [trB, stB, stR, treO, stoO, thO, sub1]) ?_
      simp [trB, stB, stR, treO, stoO, thO]
      refine rcall_of [0, 1, 5, 6] (whole26 hf hio (by omega) (by omega)) (by simp) (by simp) (by simp [trB, stB, stR, treO, stoO, thO, sub1]) (by simp [trB, stB, stR, treO, stoO, thO, sub1]) ?_
      simp [wj, trB, stB, stR, treO, stoO, thO]
      exact ⟨⟨j + 1, S', root', its⟩, ⟨by simp only; omega, SInv.up hf (by simp only; omega), hio, by simp only; omega, hv⟩, by simp only; omega, leN_of [(2, 5), (3, 6)] (by simp [trB, stB, stR, treO, stoO, thO])⟩
    · have r1' : (x.k.length : Int) ≤ 100 := by omega
      have r1c : (1 : Int) ≤ (x.k.length : Int) := by omega
      by_cases q0 : x.a = 0
      · have q0' : (x.a == 0) = true := by simpa using q0
        by_cases n1 : x.b < 0
        · have hpe : putT S root x.k x.b = ⟨S, root, 0, false, 2⟩ := by
            unfold putT; rw [if_neg (fun h => by have := keyB_iff.1 h; obtain ⟨⟨u1, u2⟩, u3, u4⟩ := this; omega)]
          simp [cn, hx, k2', k2, r1', r1c, q0, q0', trB, stB, stR, treO, stoO, thO]
          refine gcall_of0 (put11 1 0 2 3 5 _ ids5 S hc.ok (by omega) root hc.rt x.k x.b hkl) (by simp) (by simp [trB, stB, stR, treO, stoO, thO, sub1]) (by simp [sub1]) rfl ?_
          rw [hpe]
          simp [cn, hx, r1', r1c, q0, q0', n1, trB, stB, stR, treO, stoO, thO]
          refine rcall_of [0, 1, 5, 6] (whole26 hc hio (by omega) (by omega)) (by simp) (by simp) (by simp [trB, stB, stR, treO, stoO, thO, sub1]) (by simp [trB, stB, stR, treO, stoO, thO, sub1]) ?_
          simp [wj, trB, stB, stR, treO, stoO, thO]
          exact ⟨⟨j + 1, S, root, its⟩, ⟨by simp only; omega, SInv.up hc (by simp only; omega), hio, by simp only; omega, hv⟩, by simp only; omega, leN_of [(2, 5), (3, 6)] (by simp [trB, stB, stR, treO, stoO, thO])⟩
        by_cases n2 : 1099511627775 < x.b
        · have hpe : putT S root x.k x.b = ⟨S, root, 0, false, 2⟩ := by
            unfold putT; rw [if_neg (fun h => by have := keyB_iff.1 h; obtain ⟨⟨u1, u2⟩, u3, u4⟩ := this; omega)]
          simp [cn, hx, k2', k2, r1', r1c, q0, q0', trB, stB, stR, treO, stoO, thO]
          refine gcall_of0 (put11 1 0 2 3 5 _ ids5 S hc.ok (by omega) root hc.rt x.k x.b hkl) (by simp) (by simp [trB, stB, stR, treO, stoO, thO, sub1]) (by simp [sub1]) rfl ?_
          rw [hpe]
          simp [cn, hx, r1', r1c, q0, q0', n1, n2, trB, stB, stR, treO, stoO, thO]
          refine rcall_of [0, 1, 5, 6] (whole26 hc hio (by omega) (by omega)) (by simp) (by simp) (by simp [trB, stB, stR, treO, stoO, thO, sub1]) (by simp [trB, stB, stR, treO, stoO, thO, sub1]) ?_
          simp [wj, trB, stB, stR, treO, stoO, thO]
          exact ⟨⟨j + 1, S, root, its⟩, ⟨by simp only; omega, SInv.up hc (by simp only; omega), hio, by simp only; omega, hv⟩, by simp only; omega, leN_of [(2, 5), (3, 6)] (by simp [trB, stB, stR, treO, stoO, thO])⟩
        have hko : kOk x.k := ⟨by omega, by omega⟩
        have hvo : vOk x.b := ⟨by omega, by omega⟩
        have hp := put_s hc (by omega) hko hvo
        have e1 := hp.2.1
        have e2w : (putT S root x.k x.b).was = (rget its x.k).1 := by rw [← hp.2.2]
        have e2h : (putT S root x.k x.b).had = (rget its x.k).2 := by rw [← hp.2.2]
        have hpl := rput_len its x.k x.b
        have hpio := its_put (v := x.b) hio (by omega) r1.2
        have hpv : ∀ y ∈ rput its x.k x.b, vOk y.2 := fun y hy => by
          rcases mem_rput hy with rfl | hy
          · exact hvo
          · exact hv y hy
        simp [cn, hx, k2', k2, r1', r1c, q0, q0', trB, stB, stR, treO, stoO, thO]
        refine gcall_of0 (put11 1 0 2 3 5 _ ids5 S hc.ok (by omega) root hc.rt x.k x.b hkl) (by simp) (by simp [trB, stB, stR, treO, stoO, thO, sub1]) (by simp [sub1]) rfl ?_
        simp [cn, hx, r1', r1c, q0, q0', n1, n2, trB, stB, stR, treO, stoO, thO]
        refine pcall_of (rput12 its x.k x.b hio hkl) (by simp) ?_
        simp [e1, e2w, e2h, trB, stB, stR, treO, stoO, thO]
        refine rcall_of [0, 1, 5, 6] (whole26 hp.1 hpio (by omega) (by omega)) (by simp) (by simp) (by simp [trB, stB, stR, treO, stoO, thO, sub1]) (by simp [trB, stB, stR, treO, stoO, thO, sub1]) ?_
        simp [wj, trB, stB, stR, treO, stoO, thO]
        exact ⟨⟨j + 1, (putT S root x.k x.b).s, (putT S root x.k x.b).root, rput its x.k x.b⟩, ⟨by simp only; omega, SInv.up hp.1 (by simp only; omega), hpio, by simp only; omega, hpv⟩, by simp only; omega, leN_of [(2, 5), (3, 6)] (by simp [trB, stB, stR, treO, stoO, thO])⟩
      have q0' : (x.a == 0) = false := by simpa using q0
      by_cases q1 : x.a = 1
      · have q1' : (x.a == 1) = true := by simpa using q1
        have hd := del_s hc (by omega) x.k
        have e1 := hd.2.1
        have e2w : (delT S root x.k).was = (rget its x.k).1 := by rw [← hd.2.2]
        have e2h : (delT S root x.k).had = (rget its x.k).2 := by rw [← hd.2.2]
        have hdl := rdel_len its x.k
        have hdio := its_del (key := x.k) hio (by omega)
        simp [cn, hx, k2', k2, r1', r1c, q1, q1', trB, stB, stR, treO, stoO, thO]
        refine gcall_of0 (delete13 1 0 2 3 5 _ ids5 S hc.ok (by omega) root hc.rt x.k) (by simp) (by simp [trB, stB, stR, treO, stoO, thO, sub1]) (by simp [sub1]) rfl ?_
        simp [trB, stB, stR, treO, stoO, thO]
        refine pcall_of (rdel14 its x.k hio hkl) (by simp) ?_
        simp [e1, e2w, e2h, trB, stB, stR, treO, stoO, thO]
        refine rcall_of [0, 1, 5, 6] (whole26 hd.1 hdio (by omega) (by omega)) (by simp) (by simp) (by simp [trB, stB, stR, treO, stoO, thO, sub1]) (by simp [trB, stB, stR, treO, stoO, thO, sub1]) ?_
        simp [wj, trB, stB, stR, treO, stoO, thO]
        exact ⟨⟨j + 1, (delT S root x.k).s, (delT S root x.k).root, rdel its x.k⟩, ⟨by simp only; omega, SInv.up hd.1 (by simp only; omega), hdio, by simp only; omega, (fun y hy => hv y (mem_rdel hy))⟩, by simp only; omega, leN_of [(2, 5), (3, 6)] (by simp [trB, stB, stR, treO, stoO, thO])⟩
      have q1' : (x.a == 1) = false := by simpa using q1
      by_cases q2 : x.a = 2
      · have q2' : (x.a == 2) = true := by simpa using q2
        have hgl := get_law hc.inv x.k (by omega)
        simp [cn, hx, k2', k2, r1', r1c, q2, q2', trB, stB, stR, treO, stoO, thO]
        refine gcall_of0 (get22 1 0 2 3 5 ids5 S hS root hc.rt x.k) (by simp) (by simp [trB, stB, stR, treO, stoO, thO, sub1]) (by simp [sub1]) rfl ?_
        rw [hgl]
        simp [trB, stB, stR, treO, stoO, thO]
        refine pcall_of (rget23 its x.k hio hkl) (by simp) ?_
        simp [trB, stB, stR, treO, stoO, thO]
        refine rcall_of [0, 1, 2, 3] (whole26 hc hio (by omega) (by omega)) (by simp) (by simp) (by simp [trB, stB, stR, treO, stoO, thO, sub1]) (by simp [trB, stB, stR, treO, stoO, thO, sub1]) ?_
        simp [wj, trB, stB, stR, treO, stoO, thO]
        exact ⟨⟨j + 1, S, root, its⟩, ⟨by simp only; omega, SInv.up hc (by simp only; omega), hio, by simp only; omega, hv⟩, by simp only; omega, leN_of [] (by simp [trB, stB, stR, treO, stoO, thO])⟩
      have q2' : (x.a == 2) = false := by simpa using q2
      by_cases q3 : x.a = 3
      · have q3' : (x.a == 3) = true := by simpa using q3
        have hsl := scanM_law hc.inv x.k x.b (by omega)
        have hrl := rscan_le (its := its) (k := x.k) (m := x.b)
        have hri := rscan_ok (k := x.k) (m := x.b) hio
        simp [cn, hx, k2', k2, r1', r1c, q3, q3', trB, stB, stR, treO, stoO, thO]
        refine gcall_of0 (scan15 1 0 2 3 5 ids5 S hS root hc.rt x.k x.b _ hsl (by omega)) (by simp) (by simp [trB, stB, stR, treO, stoO, thO, sub1]) (by simp [sub1]) rfl ?_
        simp [trB, stB, stR, treO, stoO, thO]
        refine pcall_of (rscan24 its x.k x.b hio hkl) (by simp) ?_
        simp [trB, stB, stR, treO, stoO, thO]
        refine pcall_of (same16 _ _ hri hri) (by simp) ?_
        simp [trB, stB, stR, treO, stoO, thO]
        refine rcall_of [0, 1, 2, 3] (whole26 hc hio (by omega) (by omega)) (by simp) (by simp) (by simp [trB, stB, stR, treO, stoO, thO, sub1]) (by simp [trB, stB, stR, treO, stoO, thO, sub1]) ?_
        simp [wj, trB, stB, stR, treO, stoO, thO]
        exact ⟨⟨j + 1, S, root, its⟩, ⟨by simp only; omega, SInv.up hc (by simp only; omega), hio, by simp only; omega, hv⟩, by simp only; omega, leN_of [] (by simp [trB, stB, stR, treO, stoO, thO])⟩
      have q3' : (x.a == 3) = false := by simpa using q3
      obtain ⟨S', root', hf, hcf⟩ := fails25 hc (by omega) (by omega) hv x hkl
      simp [cn, hx, k2', k2, r1', r1c, q0', q1', q2', q3', trB, stB, stR, treO, stoO, thO]
      refine rcall_of [0, 1, 2, 3] hcf (by simp) (by simp) (by simp [trB, stB, stR, treO, stoO, thO, sub1]) (by simp [trB, stB, stR, treO, stoO, thO, sub1]) ?_
      simp [trB, stB, stR, treO, stoO, thO]
      refine rcall_of [0, 1, 5, 6] (whole26 hf hio (by omega) (by omega)) (by simp) (by simp) (by simp [trB, stB, stR, treO, stoO, thO, sub1]) (by simp [trB, stB, stR, treO, stoO, thO, sub1]) ?_
      simp [wj, trB, stB, stR, treO, stoO, thO]
      exact ⟨⟨j + 1, S', root', its⟩, ⟨by simp only; omega, SInv.up hf (by simp only; omega), hio, by simp only; omega, hv⟩, by simp only; omega, leN_of [(2, 5), (3, 6)] (by simp [trB, stB, stR, treO, stoO, thO])⟩
    · have r1' : ¬ (x.k.length : Int) ≤ 100 := by omega
      have r1c : (1 : Int) ≤ (x.k.length : Int) := by omega
      by_cases q0 : x.a = 0
      · have q0' : (x.a == 0) = true := by simpa using q0
        have hpe : putT S root x.k x.b = ⟨S, root, 0, false, 2⟩ := by
          unfold putT; rw [if_neg (fun h => by have := keyB_iff.1 h; obtain ⟨⟨u1, u2⟩, u3, u4⟩ := this; omega)]
        simp [cn, hx, k2', k2, r1', r1c, q0, q0', trB, stB, stR, treO, stoO, thO]
        refine gcall_of0 (put11 1 0 2 3 5 _ ids5 S hc.ok (by omega) root hc.rt x.k x.b hkl) (by simp) (by simp [trB, stB, stR, treO, stoO, thO, sub1]) (by simp [sub1]) rfl ?_
        rw [hpe]
        simp [cn, hx, r1', r1c, q0, q0', trB, stB, stR, treO, stoO, thO]
        refine rcall_of [0, 1, 5, 6] (whole26 hc hio (by omega) (by omega)) (by simp) (by simp) (by simp [trB, stB, stR, treO, stoO, thO, sub1]) (by simp [trB, stB, stR, treO, stoO, thO, sub1]) ?_
        simp [wj, trB, stB, stR, treO, stoO, thO]
        exact ⟨⟨j + 1, S, root, its⟩, ⟨by simp only; omega, SInv.up hc (by simp only; omega), hio, by simp only; omega, hv⟩, by simp only; omega, leN_of [(2, 5), (3, 6)] (by simp [trB, stB, stR, treO, stoO, thO])⟩
      have q0' : (x.a == 0) = false := by simpa using q0
      by_cases q1 : x.a = 1
      · have q1' : (x.a == 1) = true := by simpa using q1
        have hd := del_s hc (by omega) x.k
        have e1 := hd.2.1
        have e2w : (delT S root x.k).was = (rget its x.k).1 := by rw [← hd.2.2]
        have e2h : (delT S root x.k).had = (rget its x.k).2 := by rw [← hd.2.2]
        have hdl := rdel_len its x.k
        have hdio := its_del (key := x.k) hio (by omega)
        simp [cn, hx, k2', k2, r1', r1c, q1, q1', trB, stB, stR, treO, stoO, thO]
        refine gcall_of0 (delete13 1 0 2 3 5 _ ids5 S hc.ok (by omega) root hc.rt x.k) (by simp) (by simp [trB, stB, stR, treO, stoO, thO, sub1]) (by simp [sub1]) rfl ?_
        simp [trB, stB, stR, treO, stoO, thO]
        refine pcall_of (rdel14 its x.k hio hkl) (by simp) ?_
        simp [e1, e2w, e2h, trB, stB, stR, treO, stoO, thO]
        refine rcall_of [0, 1, 5, 6] (whole26 hd.1 hdio (by omega) (by omega)) (by simp) (by simp) (by simp [trB, stB, stR, treO, stoO, thO, sub1]) (by simp [trB, stB, stR, treO, stoO, thO, sub1]) ?_
        simp [wj, trB, stB, stR, treO, stoO, thO]
        exact ⟨⟨j + 1, (delT S root x.k).s, (delT S root x.k).root, rdel its x.k⟩, ⟨by simp only; omega, SInv.up hd.1 (by simp only; omega), hdio, by simp only; omega, (fun y hy => hv y (mem_rdel hy))⟩, by simp only; omega, leN_of [(2, 5), (3, 6)] (by simp [trB, stB, stR, treO, stoO, thO])⟩
      have q1' : (x.a == 1) = false := by simpa using q1
      by_cases q2 : x.a = 2
      · have q2' : (x.a == 2) = true := by simpa using q2
        have hgl := get_law hc.inv x.k (by omega)
        simp [cn, hx, k2', k2, r1', r1c, q2, q2', trB, stB, stR, treO, stoO, thO]
        refine gcall_of0 (get22 1 0 2 3 5 ids5 S hS root hc.rt x.k) (by simp) (by simp [trB, stB, stR, treO, stoO, thO, sub1]) (by simp [sub1]) rfl ?_
        rw [hgl]
        simp [trB, stB, stR, treO, stoO, thO]
        refine pcall_of (rget23 its x.k hio hkl) (by simp) ?_
        simp [trB, stB, stR, treO, stoO, thO]
        refine rcall_of [0, 1, 2, 3] (whole26 hc hio (by omega) (by omega)) (by simp) (by simp) (by simp [trB, stB, stR, treO, stoO, thO, sub1]) (by simp [trB, stB, stR, treO, stoO, thO, sub1]) ?_
        simp [wj, trB, stB, stR, treO, stoO, thO]
        exact ⟨⟨j + 1, S, root, its⟩, ⟨by simp only; omega, SInv.up hc (by simp only; omega), hio, by simp only; omega, hv⟩, by simp only; omega, leN_of [] (by simp [trB, stB, stR, treO, stoO, thO])⟩
      have q2' : (x.a == 2) = false := by simpa using q2
      by_cases q3 : x.a = 3
      · have q3' : (x.a == 3) = true := by simpa using q3
        have hsl := scanM_law hc.inv x.k x.b (by omega)
        have hrl := rscan_le (its := its) (k := x.k) (m := x.b)
        have hri := rscan_ok (k := x.k) (m := x.b) hio
        simp [cn, hx, k2', k2, r1', r1c, q3, q3', trB, stB, stR, treO, stoO, thO]
        refine gcall_of0 (scan15 1 0 2 3 5 ids5 S hS root hc.rt x.k x.b _ hsl (by omega)) (by simp) (by simp [trB, stB, stR, treO, stoO, thO, sub1]) (by simp [sub1]) rfl ?_
        simp [trB, stB, stR, treO, stoO, thO]
        refine pcall_of (rscan24 its x.k x.b hio hkl) (by simp) ?_
        simp [trB, stB, stR, treO, stoO, thO]
        refine pcall_of (same16 _ _ hri hri) (by simp) ?_
        simp [trB, stB, stR, treO, stoO, thO]
        refine rcall_of [0, 1, 2, 3] (whole26 hc hio (by omega) (by omega)) (by simp) (by simp) (by simp [trB, stB, stR, treO, stoO, thO, sub1]) (by simp [trB, stB, stR, treO, stoO, thO, sub1]) ?_
        simp [wj, trB, stB, stR, treO, stoO, thO]
        exact ⟨⟨j + 1, S, root, its⟩, ⟨by simp only; omega, SInv.up hc (by simp only; omega), hio, by simp only; omega, hv⟩, by simp only; omega, leN_of [] (by simp [trB, stB, stR, treO, stoO, thO])⟩
      have q3' : (x.a == 3) = false := by simpa using q3
      obtain ⟨S', root', hf, hcf⟩ := fails25 hc (by omega) (by omega) hv x hkl
      simp [cn, hx, k2', k2, r1', r1c, q0', q1', q2', q3', trB, stB, stR, treO, stoO, thO]
      refine rcall_of [0, 1, 2, 3] hcf (by simp) (by simp) (by simp [trB, stB, stR, treO, stoO, thO, sub1]) (by simp [trB, stB, stR, treO, stoO, thO, sub1]) ?_
      simp [trB, stB, stR, treO, stoO, thO]
      refine rcall_of [0, 1, 5, 6] (whole26 hf hio (by omega) (by omega)) (by simp) (by simp) (by simp [trB, stB, stR, treO, stoO, thO, sub1]) (by simp [trB, stB, stR, treO, stoO, thO, sub1]) ?_
      simp [wj, trB, stB, stR, treO, stoO, thO]
      exact ⟨⟨j + 1, S', root', its⟩, ⟨by simp only; omega, SInv.up hf (by simp only; omega), hio, by simp only; omega, hv⟩, by simp only; omega, leN_of [(2, 5), (3, 6)] (by simp [trB, stB, stR, treO, stoO, thO])⟩
  · have cn' : ¬ (j : Int) < (acts.length : Int) := by omega
    simp [cn, trB, stB, stR, treO, stoO, thO, Try.results7]
theorem law7n {x : PC} (hx : actsS x) : PureC Try.prog 7 [x] (.bool true) := by
  obtain ⟨l, rfl⟩ := hx
  exact law7 l
end Go.Av
