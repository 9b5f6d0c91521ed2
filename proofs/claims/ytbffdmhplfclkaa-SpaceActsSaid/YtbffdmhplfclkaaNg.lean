/- The map's lists and the document's sectors; SpaceActs computes true. -/
import Derived.Test.YtbffdmhplfclkaaNf
set_option linter.all false
/-! part P16al -/
namespace Go.Av
open Go.Proofs

def setF {α : Type} (S : List α) (es : List Ext) (v : α) : List α := es.foldl (fun S e => setR S e.1 e.2 v) S
theorem setX_F (S : List Int) (es : List Ext) : setX S es = setF S es 2 := rfl
theorem setEs_F {α : Type} (S : List α) (es : List (Int × Int)) (v : α) : setEs S es v = setF S (es.map toE) v := by
  unfold setEs setF; rw [List.foldl_map]; rfl
theorem setF_len {α : Type} (v : α) : ∀ (es : List Ext) (S : List α), (setF S es v).length = S.length
  | [], _ => rfl
  | e :: es, S => by rw [show setF S (e :: es) v = setF (setR S e.1 e.2 v) es v from rfl, setF_len v es]; simp
theorem setF_get {α : Type} (v d : α) (j : Nat) : ∀ (es : List Ext) (S : List α), (∀ e ∈ es, e.1 + e.2 ≤ S.length) →
    ((∃ e ∈ es, inE e j) → (setF S es v).getD j d = v) ∧ ((∀ e ∈ es, ¬ inE e j) → (setF S es v).getD j d = S.getD j d)
  | [], _, _ => ⟨by simp, fun _ => rfl⟩
  | e :: es, S, h => by
    rw [show setF S (e :: es) v = setF (setR S e.1 e.2 v) es v from rfl]
    obtain ⟨i1, i2⟩ := setF_get v d j es (setR S e.1 e.2 v) fun x hx => by rw [setR_len]; exact h x (by simp [hx])
    have hg := setR_get S e.1 v d e.2 (h e (by simp)) j
    refine ⟨?_, fun hn => ?_⟩
    · rintro ⟨x, hx, hj⟩
      by_cases hq : ∃ y ∈ es, inE y j
      · exact i1 hq
      · rw [i2 fun y hy hh => hq ⟨y, hy, hh⟩]
        rcases List.mem_cons.1 hx with rfl | hx
        · rw [hg, if_pos (show x.1 ≤ j ∧ j < x.1 + x.2 from hj)]
        · exact absurd ⟨x, hx, hj⟩ hq
    · rw [i2 fun y hy => hn y (by simp [hy]), hg, if_neg (show ¬ (e.1 ≤ j ∧ j < e.1 + e.2) from hn e (by simp))]

/-- the map's lists, and the sectors as the document has them -/
structure Rel (n : Nat) (F R W : List Ext) (S : List Int) (T : List Bool) : Prop where
  lS : S.length = n
  lT : T.length = n
  oF : Ok n F
  oR : Ok n R
  oW : Ok n W
  mF : ∀ s, s < n → (mem F s ↔ S.getD s 1 = 0)
  mR : ∀ s, s < n → (mem R s ↔ S.getD s 1 = 2)
  mW : ∀ s, s < n → (mem W s ↔ T.getD s false = true)
  dW : ∀ s, mem W s → ¬ mem F s
theorem Ok.lt {n : Nat} {L : List Ext} (h : Ok n L) {s : Nat} (hm : mem L s) : s < n := by
  obtain ⟨e, he, hs⟩ := hm
  have := h.top e he
  unfold inE at hs; omega
section
variable {n : Nat} {F R W : List Ext} {S : List Int} {T : List Bool}
theorem Rel.dR (h : Rel n F R W S T) (s : Nat) (hF : mem F s) : ¬ mem R s := fun hR => by
  have hs := h.oF.lt hF
  have a := (h.mF s hs).1 hF
  have b := (h.mR s hs).1 hR
  omega
theorem Rel.runs (h : Rel n F R W S T) : runsL S = F := by
  refine (runs_eq h.oF.nr fun s => ?_).symm
  rw [h.lS]
  constructor
  · intro hm; have hs := h.oF.lt hm; exact ⟨hs, (h.mF s hs).1 hm⟩
  · rintro ⟨hs, hm⟩; exact (h.mF s hs).2 hm
theorem Rel.free (h : Rel n F R W S T) : zeros S S.length = szL F := by
  rw [← szL_runs, ← h.runs]; rfl
theorem cnt_congr {p q : Nat → Bool} : ∀ {k : Nat}, (∀ i, i < k → p i = q i) → cntN p k = cntN q k
  | 0, _ => rfl
  | k + 1, h => by simp only [cntN, cnt_congr (k := k) fun i hi => h i (by omega), h k (by omega)]
theorem Rel.wait (h : Rel n F R W S T) : trues T S.length = szL W := by
  obtain ⟨U, hU⟩ : ∃ U, U = T.map fun b => if b = true then (0 : Int) else 1 := ⟨_, rfl⟩
  have hl : U.length = n := by rw [hU]; simp [h.lT]
  have hg : ∀ s, s < n → (U.getD s 1 = 0 ↔ T.getD s false = true) := fun s hs => by
    rw [hU]
    have : s < T.length := by rw [h.lT]; exact hs
    simp [List.getD, this]
  have hW : W = runsL U := runs_eq h.oW.nr fun s => by
    rw [hl]
    constructor
    · intro hm; have hs := h.oW.lt hm; exact ⟨hs, (hg s hs).2 ((h.mW s hs).1 hm)⟩
    · rintro ⟨hs, hm⟩; exact (h.mW s hs).2 ((hg s hs).1 hm)
  have hz := szL_runs U U.length
  rw [show runsN U U.length = runsL U from rfl, ← hW, hl] at hz
  rw [hz, h.lS]
  refine cnt_congr fun i hi => ?_
  have := hg i hi
  cases hT : T.getD i false with
  | true => rw [hT] at this; simp only [true_iff] at this ⊢; symm; simpa using this.2 trivial
  | false => rw [hT] at this; symm; simpa using this
theorem rel_init (h : 1 ≤ n) : Rel n [(0, n)] [] [] (List.replicate n 0) (List.replicate n false) := by
  refine ⟨by simp, by simp, ⟨nr_one h, by simp⟩, ok_nil, ok_nil, fun s hs => ?_, fun s hs => ?_, fun s hs => ?_, by simp⟩
  · simp [mem, inE, List.getD, hs]
  · simp [mem, List.getD, hs]
  · simp [mem, List.getD, hs]

/-- extents of free sectors are taken anew, or held -/
theorem Rel.cut (h : Rel n F R W S T) {es : List Ext} (h1 : ∀ e ∈ es, 1 ≤ e.2 ∧ ∀ s, inE e s → mem F s) (h2 : ∀ e ∈ es, e.1 + e.2 ≤ n) (hd : Dj es) :
    Rel n (es.foldl cutL F) (es.foldl putL R) W (setF S es 2) T ∧ Rel n (es.foldl cutL F) R W (setF S es 1) T := by
  obtain ⟨c1, c2, _⟩ := cuts_law h.oF h1 hd es.length (Nat.le_refl _)
  obtain ⟨p1, p2, _⟩ := puts_law h.oR (fun e he => ⟨(h1 e he).1, h2 e he, fun s hs => h.dR s ((h1 e he).2 s hs)⟩) hd es.length (Nat.le_refl _)
  rw [List.take_length] at c1 c2 p1 p2
  have hg2 := fun s => setF_get (2 : Int) 1 s es S (fun e he => by rw [h.lS]; exact h2 e he)
  have hg1 := fun s => setF_get (1 : Int) 1 s es S (fun e he => by rw [h.lS]; exact h2 e he)
  have key : ∀ s, (∃ e ∈ es, inE e s) ∨ ∀ e ∈ es, ¬ inE e s := fun s => by
    by_cases hq : ∃ e ∈ es, inE e s
    · exact .inl hq
    · exact .inr fun e he hh => hq ⟨e, he, hh⟩
  refine ⟨⟨by rw [setF_len]; exact h.lS, h.lT, c1, p1, h.oW, fun s hs => ?_, fun s hs => ?_, h.mW, fun s hw hf => h.dW s hw ((c2 s).1 hf).1⟩,
    ⟨by rw [setF_len]; exact h.lS, h.lT, c1, h.oR, h.oW, fun s hs => ?_, fun s hs => ?_, h.mW, fun s hw hf => h.dW s hw ((c2 s).1 hf).1⟩⟩
  · rw [c2]
    rcases key s with k | k
    · rw [(hg2 s).1 k]
      obtain ⟨e, he, hh⟩ := k
      exact ⟨fun ⟨_, q⟩ => absurd hh (q e he), fun q => by omega⟩
    · rw [(hg2 s).2 k, h.mF s hs]; exact ⟨fun q => q.1, fun q => ⟨q, k⟩⟩
  · rw [p2]
    rcases key s with k | k
    · rw [(hg2 s).1 k]; exact ⟨fun _ => rfl, fun _ => .inr k⟩
    · rw [(hg2 s).2 k, h.mR s hs]
      exact ⟨fun q => by rcases q with q | ⟨e, he, hh⟩; exact q; exact absurd hh (k e he), .inl⟩
  · rw [c2]
    rcases key s with k | k
    · rw [(hg1 s).1 k]
      obtain ⟨e, he, hh⟩ := k
      exact ⟨fun ⟨_, q⟩ => absurd hh (q e he), fun q => by omega⟩
    · rw [(hg1 s).2 k, h.mF s hs]; exact ⟨fun q => q.1, fun q => ⟨q, k⟩⟩
  · rcases key s with k | k
    · rw [(hg1 s).1 k]
      obtain ⟨e, he, hh⟩ := k
      exact ⟨fun q => absurd q (h.dR s ((h1 e he).2 s hh)), fun q => by omega⟩
    · rw [(hg1 s).2 k, h.mR s hs]

/-- extents of taken sectors wait -/
theorem Rel.give (h : Rel n F R W S T) {es : List Ext} (h1 : ∀ e ∈ es, 1 ≤ e.2 ∧ ∀ s, inE e s → ¬ mem F s ∧ ¬ mem W s) (h2 : ∀ e ∈ es, e.1 + e.2 ≤ n) (hd : Dj es) :
    Rel n F R (es.foldl putL W) S (setF T es true) := by
  obtain ⟨p1, p2, _⟩ := puts_law h.oW (fun e he => ⟨(h1 e he).1, h2 e he, fun s hs => ((h1 e he).2 s hs).2⟩) hd es.length (Nat.le_refl _)
  rw [List.take_length] at p1 p2
  refine ⟨h.lS, by rw [setF_len]; exact h.lT, h.oF, h.oR, p1, h.mF, h.mR, fun s hs => ?_, fun s hw hf => ?_⟩
  · have hg := setF_get true false s es T (fun e he => by rw [h.lT]; exact h2 e he)
    rw [p2]
    by_cases hq : ∃ e ∈ es, inE e s
    · rw [hg.1 hq]; exact ⟨fun _ => rfl, fun _ => .inr hq⟩
    · rw [hg.2 fun e he hh => hq ⟨e, he, hh⟩, h.mW s hs]
      exact ⟨fun q => by rcases q with q | q; exact q; exact absurd q hq, .inl⟩
  · rcases (p2 s).1 hw with q | ⟨e, he, hh⟩
    · exact h.dW s q hf
    · exact ((h1 e he).2 s hh).1 hf
theorem getD_any {α : Type} {l : List α} {s : Nat} (hs : s < l.length) (d d' : α) : l.getD s d = l.getD s d' := by simp [List.getD, hs]

theorem Rel.commit (h : Rel n F R W S T) : Rel n (W.foldl putL F) [] [] (cmN S T S.length) (flN T S.length) := by
  obtain ⟨p1, p2, _⟩ := puts_law h.oF (es := W) (fun e he => ⟨h.oW.nr.pos e he, h.oW.top e he, fun s hs hm => h.dW s ⟨e, he, hs⟩ hm⟩) (nr_dj h.oW.nr) W.length (Nat.le_refl _)
  rw [List.take_length] at p1 p2
  have hc : ∀ s, s < n → (cmN S T S.length).getD s 1 = cmV (S.getD s 1) (T.getD s false) := fun s hs => by
    rw [cmN_get S T _ (Nat.le_refl _), if_pos (by rw [h.lS]; exact hs), getD_any (by rw [h.lS]; exact hs) 0 1]
  refine ⟨by simp [h.lS], by simp [h.lT], p1, ok_nil, ok_nil, fun s hs => ?_, fun s hs => ?_, fun s hs => ?_, by simp⟩
  · rw [p2, hc s hs, h.mF s hs]
    have hw := h.mW s hs
    have : (∃ e ∈ W, inE e s) ↔ T.getD s false = true := hw
    rw [this]
    unfold cmV
    cases T.getD s false with
    | true => simp
    | false =>
      simp only [Bool.false_eq_true, if_false, or_false]
      split
      · rename_i e; rw [e]; omega
      · exact Iff.rfl
  · rw [hc s hs]
    simp only [mem_nil, false_iff]
    unfold cmV
    split
    · omega
    · split <;> omega
  · rw [flN_get T _ (by rw [h.lS, h.lT]; exact Nat.le_refl _), if_pos (by rw [h.lS]; exact hs)]; simp
theorem Rel.abort (h : Rel n F R W S T) : Rel n (R.foldl putL F) [] [] (abN S S.length) (flN T S.length) := by
  obtain ⟨p1, p2, _⟩ := puts_law h.oF (es := R) (fun e he => ⟨h.oR.nr.pos e he, h.oR.top e he, fun s hs hm => h.dR s hm ⟨e, he, hs⟩⟩) (nr_dj h.oR.nr) R.length (Nat.le_refl _)
  rw [List.take_length] at p1 p2
  have hc : ∀ s, s < n → (abN S S.length).getD s 1 = if S.getD s 1 = 2 then 0 else S.getD s 1 := fun s hs => by
    rw [abN_get S _ (Nat.le_refl _), if_pos (by rw [h.lS]; exact hs), getD_any (by rw [h.lS]; exact hs) 0 1]
  refine ⟨by simp [h.lS], by simp [h.lT], p1, ok_nil, ok_nil, fun s hs => ?_, fun s hs => ?_, fun s hs => ?_, by simp⟩
  · rw [p2, hc s hs, h.mF s hs]
    have : (∃ e ∈ R, inE e s) ↔ S.getD s 1 = 2 := h.mR s hs
    rw [this]
    split
    · rename_i e; exact ⟨fun _ => rfl, fun _ => .inr e⟩
    · rename_i e; exact ⟨fun q => by rcases q with q | q; exact q; exact absurd q e, .inl⟩
  · rw [hc s hs]
    simp only [mem_nil, false_iff]
    split <;> omega
  · rw [flN_get T _ (by rw [h.lS, h.lT]; exact Nat.le_refl _), if_pos (by rw [h.lS]; exact hs)]; simp
end
end Go.Av

/-! part P16am -/
namespace Go.Av
open Go.Proofs

theorem set_getT {sn : List Bool} {x : Nat} (h : x < sn.length) (s : Nat) : (sn.set x true).getD s false = true ↔ sn.getD s false = true ∨ s = x := by
  simp only [List.getD_eq_getElem?_getD, List.getElem?_set]
  by_cases e : x = s
  · subst e; simp [h]
  · rw [if_neg e]
    exact ⟨.inl, fun q => by rcases q with q | q; exact q; exact absurd q.symm e⟩
theorem runE_spec : ∀ (q p : Nat) (sn : List Bool), p + q ≤ sn.length →
    (runE sn p q = none ∧ ∃ j, p ≤ j ∧ j < p + q ∧ sn.getD j false = true) ∨
    (∃ sn', runE sn p q = some sn' ∧ sn'.length = sn.length ∧ (∀ s, sn'.getD s false = true ↔ sn.getD s false = true ∨ (p ≤ s ∧ s < p + q)) ∧ ∀ j, p ≤ j → j < p + q → sn.getD j false = false)
  | 0, p, sn, _ => .inr ⟨sn, rfl, rfl, fun s => ⟨.inl, fun h => by rcases h with h | h; exact h; omega⟩, fun j h1 h2 => by omega⟩
  | q + 1, p, sn, h => by
    cases hb : sn.getD p false with
    | true => exact .inl ⟨by rw [runE, if_pos hb], p, by omega, by omega, hb⟩
    | false =>
      have e : runE sn p (q + 1) = runE (sn.set p true) (p + 1) q := by rw [runE, if_neg (by rw [hb]; simp)]
      rw [e]
      have hs := fun s => set_getT (sn := sn) (x := p) (by omega) s
      rcases runE_spec q (p + 1) (sn.set p true) (by simp; omega) with ⟨h1, j, h2, h3, h4⟩ | ⟨sn', h1, h2, h3, h4⟩
      · refine .inl ⟨h1, j, by omega, by omega, ?_⟩
        rcases (hs j).1 h4 with k | k
        · exact k
        · omega
      · refine .inr ⟨sn', h1, by simpa using h2, fun s => ?_, fun j h5 h6 => ?_⟩
        · rw [h3, hs]
          constructor
          · rintro ((k | k) | k)
            · exact .inl k
            · exact .inr ⟨by omega, by omega⟩
            · exact .inr ⟨by omega, by omega⟩
          · rintro (k | k)
            · exact .inl (.inl k)
            · by_cases c : s = p
              · exact .inl (.inr c)
              · exact .inr ⟨by omega, by omega⟩
        · by_cases c : j = p
          · subst c; exact hb
          · have := h4 j (by omega) (by omega)
            cases hj : sn.getD j false with
            | false => rfl
            | true => rw [(hs j).2 (.inl hj)] at this; cases this
theorem apart_right {n : Nat} : ∀ (es : List (Int × Int)) (sn : List Bool) (L : List Ext), sn.length = n → Ok n L → (∀ s, s < n → (mem L s ↔ sn.getD s false = true)) → apartE n sn es = rightE n L es
  | [], _, _, _, _, _ => rfl
  | e :: es, sn, L, hl, hL, hm => by
    simp only [apartE, rightE]
    cases ho : okE n e with
    | false => rfl
    | true =>
      obtain ⟨p, q, rfl, q1, q2⟩ := okE_nat ho
      have hte : toE ((p : Int), (q : Int)) = (p, q) := by simp [toE]
      rw [hte]
      simp only [Int.toNat_natCast, Bool.true_and]
      rcases runE_spec q p sn (by omega) with ⟨h1, j, h2, h3, h4⟩ | ⟨sn', h1, h2, h3, h4⟩
      · have : mtB L (p, q) = true := (mt_iff hL.nr _ q1).2 ⟨j, ⟨h2, h3⟩, (hm j (by omega)).2 h4⟩
        rw [h1, this]; rfl
      · have hb : mtB L (p, q) = false := by
          cases hb : mtB L (p, q) with
          | false => rfl
          | true =>
            obtain ⟨s, hs, hms⟩ := (mt_iff hL.nr _ q1).1 hb
            unfold inE at hs
            have := (hm s (by simp only at hs; omega)).1 hms
            rw [h4 s hs.1 hs.2] at this; cases this
        obtain ⟨g1, g2⟩ := hL.put q1 hb (by simpa using q2)
        rw [h1, hb]
        simp only [Bool.not_false, Bool.true_and]
        exact apart_right es sn' _ (by rw [h2]; exact hl) g1 fun s hs => by rw [g2, h3, hm s hs]; exact Iff.rfl
theorem apart_right0 {n : Nat} (es : List (Int × Int)) : apartE n (List.replicate n false) es = rightE n [] es :=
  apart_right es _ _ (by simp) ok_nil fun s hs => by simp [List.getD, hs]
theorem anyIn_iff {q : Nat → Bool} : ∀ {k x : Nat}, anyIn q x k = true ↔ ∃ j, x ≤ j ∧ j < x + k ∧ q j = true
  | 0, x => by simp [anyIn]; intro j h1 h2; omega
  | k + 1, x => by
    simp only [anyIn, Bool.or_eq_true, anyIn_iff (k := k)]
    constructor
    · rintro (h | ⟨j, h1, h2, h3⟩)
      · exact ⟨x, by omega, by omega, h⟩
      · exact ⟨j, by omega, by omega, h3⟩
    · rintro ⟨j, h1, h2, h3⟩
      by_cases e : j = x
      · subst e; exact .inl h3
      · exact .inr ⟨j, by omega, by omega, h3⟩
theorem anyEs_congr {q : Nat → Bool} {r : Ext → Bool} {es : List (Int × Int)} (h : ∀ e ∈ es, anyIn q e.1.toNat e.2.toNat = r (toE e)) : anyEs q es = (es.map toE).any r := by
  unfold anyEs
  induction es with
  | nil => rfl
  | cons e es ih => simp only [List.any_cons, List.map_cons, h e (by simp), ih fun x hx => h x (by simp [hx])]

section
variable {n : Nat} {F R W : List Ext} {S : List Int} {T : List Bool}
theorem Rel.holdB (h : Rel n F R W S T) (es : List (Int × Int)) : rholdB S es = holdB n F es := by
  unfold rholdB Go.Av.holdB
  rw [h.lS, apart_right0]
  cases hr : rightE n [] es with
  | false => rfl
  | true =>
    rw [← apart_right0] at hr
    have hok := apartE_ok hr
    rw [anyEs_congr (r := fun e => !hasB F e)]
    intro e he
    obtain ⟨p, q, rfl, q1, q2⟩ := okE_nat (hok e he)
    have hte : toE ((p : Int), (q : Int)) = (p, q) := by simp [toE]
    rw [hte]
    simp only [Int.toNat_natCast]
    have hh := has_iff h.oF.nr (p, q) q1
    rw [Bool.eq_iff_iff, anyIn_iff, Bool.not_eq_true', Bool.eq_false_iff, ne_eq, hh]
    constructor
    · rintro ⟨j, h1, h2, h3⟩ hall
      have := (h.mF j (by omega)).1 (hall j ⟨h1, h2⟩)
      rw [getD_any (by rw [h.lS]; omega) 1 0] at this
      unfold qHold at h3; rw [this] at h3; simp at h3
    · intro hall
      apply Classical.byContradiction
      intro hno
      apply hall
      intro s hs
      unfold inE at hs; simp only at hs
      refine (h.mF s (by omega)).2 ?_
      rw [getD_any (by rw [h.lS]; omega) 1 0]
      cases hq : qHold S s with
      | true => exact absurd ⟨s, hs.1, hs.2, hq⟩ hno
      | false => unfold qHold at hq; simpa using hq
theorem Rel.giveB (h : Rel n F R W S T) (es : List (Int × Int)) : rgiveB S T es = giveB n F W es := by
  unfold rgiveB Go.Av.giveB
  rw [h.lS, apart_right0]
  cases hr : rightE n [] es with
  | false => rfl
  | true =>
    rw [← apart_right0] at hr
    have hok := apartE_ok hr
    rw [anyEs_congr (r := fun e => mtB F e || mtB W e)]
    intro e he
    obtain ⟨p, q, rfl, q1, q2⟩ := okE_nat (hok e he)
    have hte : toE ((p : Int), (q : Int)) = (p, q) := by simp [toE]
    rw [hte]
    simp only [Int.toNat_natCast]
    rw [Bool.eq_iff_iff, anyIn_iff, Bool.or_eq_true, mt_iff h.oF.nr (p, q) q1, mt_iff h.oW.nr (p, q) q1]
    constructor
    · rintro ⟨j, h1, h2, h3⟩
      unfold qGive at h3
      rw [Bool.or_eq_true] at h3
      rcases h3 with h3 | h3
      · exact .inl ⟨j, ⟨h1, h2⟩, (h.mF j (by omega)).2 (by rw [getD_any (by rw [h.lS]; omega) 1 0]; simpa using h3)⟩
      · exact .inr ⟨j, ⟨h1, h2⟩, (h.mW j (by omega)).2 h3⟩
    · rintro (⟨j, hj, hm⟩ | ⟨j, hj, hm⟩)
      · unfold inE at hj; simp only at hj
        have := (h.mF j (by omega)).1 hm
        rw [getD_any (by rw [h.lS]; omega) 1 0] at this
        exact ⟨j, hj.1, hj.2, by unfold qGive; rw [this]; rfl⟩
      · unfold inE at hj; simp only at hj
        have := (h.mW j (by omega)).1 hm
        exact ⟨j, hj.1, hj.2, by unfold qGive; rw [this, Bool.or_true]⟩
theorem Rel.hold (h : Rel n F R W S T) (es : List (Int × Int)) :
    Rel n (if Go.Av.holdB n F es = true then (es.map toE).foldl cutL F else F) R W (if Go.Av.holdB n F es = true then setEs S es 1 else S) T := by
  by_cases hb : Go.Av.holdB n F es = true
  · rw [if_pos hb, if_pos hb, setEs_F]
    unfold Go.Av.holdB at hb
    rw [Bool.and_eq_true] at hb
    obtain ⟨h1, h2⟩ := hb
    obtain ⟨_, r2, r3⟩ := right_law es [] ok_nil h1
    refine (h.cut (fun e he => ⟨(r2 e he).1, ?_⟩) (fun e he => (r2 e he).2.1) r3).2
    simp at h2
    obtain ⟨x, hx, rfl⟩ := List.mem_map.1 he
    exact (has_iff h.oF.nr _ (r2 _ he).1).1 (h2 x.1 x.2 hx)
  · rw [if_neg hb, if_neg hb]; exact h
theorem Rel.gives (h : Rel n F R W S T) (es : List (Int × Int)) :
    Rel n F R (if Go.Av.giveB n F W es = true then (es.map toE).foldl putL W else W) S (if Go.Av.giveB n F W es = true then setEs T es true else T) := by
  by_cases hb : Go.Av.giveB n F W es = true
  · rw [if_pos hb, if_pos hb, setEs_F]
    unfold Go.Av.giveB at hb
    rw [Bool.and_eq_true] at hb
    obtain ⟨h1, h2⟩ := hb
    obtain ⟨_, r2, r3⟩ := right_law es [] ok_nil h1
    refine h.give (fun e he => ⟨(r2 e he).1, ?_⟩) (fun e he => (r2 e he).2.1) r3
    simp at h2
    obtain ⟨x, hx, rfl⟩ := List.mem_map.1 he
    have hx2 := h2 x.1 x.2 hx
    intro s hs
    refine ⟨fun hm => ?_, fun hm => ?_⟩
    · have := (mt_iff h.oF.nr _ (r2 _ he).1).2 ⟨s, hs, hm⟩
      rw [hx2.1] at this; cases this
    · have := (mt_iff h.oW.nr _ (r2 _ he).1).2 ⟨s, hs, hm⟩
      rw [hx2.2] at this; cases this
  · rw [if_neg hb, if_neg hb]; exact h
theorem Rel.pieces (h : Rel n F R W S T) (K most : Int) :
    Rel n (if piecesB F K most = true then (pcsL F K.toNat).foldl cutL F else F) (if piecesB F K most = true then (pcsL F K.toNat).foldl putL R else R) W (if piecesB F K most = true then setX S (pcsL F K.toNat) else S) T := by
  by_cases hb : piecesB F K most = true
  · rw [if_pos hb, if_pos hb, if_pos hb, setX_F]
    have hin := pcsL_in h.oF.nr K.toNat
    exact (h.cut hin.1 (pcsL_top h.oF.top K.toNat) hin.2).1
  · rw [if_neg hb, if_neg hb, if_neg hb]; exact h
theorem Rel.take (h : Rel n F R W S T) {i k : Nat} (hi : i < F.length) (hk : 1 ≤ k) (hki : k ≤ F[i].2) : Rel n (cutL F (F[i].1, k)) (putL R (F[i].1, k)) W (setR S F[i].1 k 2) T := by
  have ht := h.oF.top _ (List.getElem_mem hi)
  exact (h.cut (es := [(F[i].1, k)]) (by
    intro e he; simp at he; subst he
    exact ⟨hk, fun s hs => ⟨F[i], List.getElem_mem hi, by unfold inE at hs ⊢; simp only at hs; omega⟩⟩) (by intro e he; simp at he; subst he; simp only; omega) (by simp [Dj])).1
end
end Go.Av

/-! part P16an -/
namespace Go.Av
open Go.Proofs

structure ActV where
  kd : Int
  nn : Int
  mo : Int
  es : List (Int × Int)
abbrev actP (a : ActV) : PC := .agg false [.int a.kd, .int a.nn, .int a.mo, .sl (a.es.map extI)]

theorem setP_I (A : List Ext) : setP A = .sl ((A.map fun e => ((e.1 : Int), (e.2 : Int))).map extI) := by simp [setP, List.map_map]
theorem same13P (A : List Ext) (h : A.length ≤ 100000) : PureC Try.prog 13 [setP A, setP A] (.bool true) := by
  rw [setP_I]
  have := same13 (A.map fun e => ((e.1 : Int), (e.2 : Int))) (A.map fun e => ((e.1 : Int), (e.2 : Int))) (by simpa using h) (by simpa using h)
  simpa using this

set_option maxHeartbeats 16000000 in
set_option maxRecDepth 100000 in
theorem law6 (z : Int) (acts : List ActV) : PureC Try.prog 6 [.int z, .sl (acts.map actP)] (.bool true) := by
  refine pure_of_aw (ys := [_]) [] [(29, [(3, .r 1), (4, .f [1]), (5, .w [1]), (8, .r 1), (9, .w [1])]), (32, [(3, .r 1), (4, .f [1]), (5, .w [1]), (8, .r 1), (9, .w [1])])] [(1, 7)] mixed Try.func6 rfl (by kernel_rfl) (by kernel_rfl) (by simp [Try.ntmps6]) rfl ?_
  simp
  refine pcall_of awake7 (by simp) ?_
  by_cases c : 60 < acts.length
  · have c' : decide ((60 : Int) < acts.length) = true := by simp; omega
    simp [c']
    refine pcall_of awake7 (by simp) ?_
    simp [Try.results6]
  have c' : decide ((60 : Int) < acts.length) = false := by simp; omega
  simp [c']
  by_cases b1 : z < 1
  · refine gcall_of0 (new8n 0 z (.inl b1)) (by simp) (by simp [sub1]) trivial rfl ?_
    simp [b1, Try.results6]
  by_cases b2 : 65536 < z
  · refine gcall_of0 (new8n 0 z (.inr b2)) (by simp) (by simp [sub1]) trivial rfl ?_
    simp [b1, b2, Try.results6]
  obtain ⟨n, rfl⟩ : ∃ n : Nat, z = n := ⟨z.toNat, by omega⟩
  have b1' : decide ((n : Int) < 1) = false := by simp; omega
  have b2' : decide ((65536 : Int) < (n : Int)) = false := by simp; omega
  refine gcall_of0 (new8 0 n (by omega) (by omega)) (by simp) (by simp [sub1]) trivial rfl ?_
  simp [b1', b2']
  refine gcall_of0 (free10 1 0 2 3 4 n (by constructor <;> omega) [(0, n)] [] [] ⟨by simp; omega, by simp, by simp; omega, by simp⟩) (by simp) (by simp [sub1, mapB, mapO, mapX]) trivial rfl ?_
  have hsz : szL [(0, n)] = n := by simp [szL]
  rw [hsz]
  by_cases b3 : 300 < n
  · have b3' : decide ((300 : Int) < (n : Int)) = true := by simp; omega
    simp [b3', Try.results6]
  have b3' : decide ((300 : Int) < (n : Int)) = false := by simp; omega
  simp [b3']
  refine gcall_of0 (rnew19 4 n (by omega)) (by simp) (by simp [sub1]) trivial rfl ?_
  simp [mapB, mapO, mapX, refB, refO, refX]
  refine aw_loop (fun y : Nat × List Ext × List Ext × List Ext × List Int × List Bool => y.1 ≤ acts.length ∧ Rel n y.2.1 y.2.2.1 y.2.2.2.1 y.2.2.2.2.1 y.2.2.2.2.2)
    (fun y => [(0, .p (.int n)), (1, .p (.sl (acts.map actP))), (5, .obj 1 0), (7, .obj 6 0), (8, .p (.int y.1))])
    (fun y => ⟨mapB 1 0 2 3 n y.2.1 y.2.2.1 y.2.2.2.1 ++ refB 6 4 5 y.2.2.2.2.1 y.2.2.2.2.2, [], 7⟩) (fun y => acts.length - y.1) (0, [(0, n)], [], [], List.replicate n 0, List.replicate n false) ⟨by simp, rel_init (by omega)⟩ _
    (AS.le_refl _ _) (leN_id (by simp [mapB, mapO, mapX, refB, refO, refX])) ?_
  rintro ⟨i, F, R, W, S, T⟩ ⟨h1, hr⟩
  simp only at h1 hr
  have lS := hr.lS
  have lT := hr.lT
  have lF := hr.oF.len
  by_cases c0 : i < acts.length
  case neg =>
    obtain rfl : i = acts.length := by omega
    simp [Try.results6]
  obtain ⟨a, ha⟩ : ∃ a, acts[i] = a := ⟨_, rfl⟩
  obtain ⟨kd, nn, mo, es⟩ := a
  by_cases c1 : 20 < es.length
  · have c1' : decide ((20 : Int) < (es.length : Int)) = true := by simp; omega
    simp [c0, ha, c1', Try.results6, mapB, mapO, mapX, refB, refO, refX]
  have c1' : decide ((20 : Int) < (es.length : Int)) = false := by simp; omega
  have ew' : ∀ (x : PC) (u v : Int), (u, v) ∈ es → extI (u, v) = x → x.width = 2 := fun x u v _ e => by subst e; rfl
  have ew : ∀ x ∈ es.map extI, x.width = 2 := by intro x hx; obtain ⟨e, _, rfl⟩ := List.mem_map.1 hx; rfl
  by_cases k0 : kd = 0
  · subst k0
    by_cases ht : nn < 1 ∨ ∀ e ∈ F, ¬ nn ≤ (e.2 : Int)
    · have ht' := ht
      rw [← hr.runs] at ht'
      simp [c0, ha, c1', mapB, mapO, mapX, refB, refO, refX]
      refine gcall_of0 (take9n 1 0 2 3 8 n (by constructor <;> omega) F R W nn (hr.oF.nrm (by omega)) ht) (by simp) (by simp [sub1, mapB, mapO, mapX, refB, refO, refX]) trivial rfl ?_
      simp [mapB, mapO, mapX, refB, refO, refX]
      refine gcall_of0 (rtake20n 6 4 5 9 (by constructor <;> omega) S T (by omega) (by omega) nn ht') (by simp) (by simp [sub1, mapB, mapO, mapX, refB, refO, refX]) trivial rfl ?_
      simp [mapB, mapO, mapX, refB, refO, refX]
      have hrel : Rel n (F) (R) (W) (S) (T) := hr
      generalize (F) = F' at *
      generalize (R) = R' at *
      generalize (W) = W' at *
      generalize (S) = S' at *
      generalize (T) = T' at *
      have lS' := hrel.lS
      have lT' := hrel.lT
      have lF' := hrel.oF.len
      have x26 := rfree26 S' T' (by omega)
      have x27 := rwait27 S' T' (by omega) (by omega)
      rw [hrel.free] at x26
      rw [hrel.wait] at x27
      have x28 := runs28 6 4 5 11 (by constructor <;> omega) S' T' (by omega)
      rw [hrel.runs] at x28
      have x10 := free10 1 0 2 3 10 n (by constructor <;> omega) F' R' W' (hrel.oF.nrm (by omega))
      have x17 := waiting17 1 0 2 3 10 n (by constructor <;> omega) F' R' W' (hrel.oW.nrm (by omega))
      have x14 := runs14 1 0 2 3 10 n (by constructor <;> omega) F' R' W' (by omega)
      refine gcall_of0 x10 (by simp) (by simp [sub1, mapB, mapO, mapX]) trivial rfl ?_
      simp [mapB, mapO, mapX, refB, refO, refX]
      refine bcall_of0 x26 ⟨bor_ref (s := 4) (t := 5) (by simp [refO, refX, lS', lS]) (by simp) (by simp) (by omega), trivial⟩ rfl ?_
      simp
      refine gcall_of0 x17 (by simp) (by simp [sub1, mapB, mapO, mapX]) trivial rfl ?_
      simp [mapB, mapO, mapX, refB, refO, refX]
      refine bcall_of0 x27 ⟨bor_ref (s := 4) (t := 5) (by simp [refO, refX, lS', lS]) (by simp) (by simp) (by omega), trivial⟩ rfl ?_
      simp
      refine gcall_of0 x14 (by simp) (by simp [sub1, mapB, mapO, mapX]) trivial rfl ?_
      simp [mapB, mapO, mapX, refB, refO, refX]
      refine gcall_of0 x28 (by simp) (by simp [sub1, refB, refO, refX, lS', lS]) trivial rfl ?_
      simp [mapB, mapO, mapX, refB, refO, refX]
      refine bcall_of0 (same13P F' (by omega)) ⟨bor_set (by simp) rfl, bor_set (by simp) rfl, trivial⟩ rfl ?_
      simp
      refine ⟨i + 1, F', R', W', S', T', ⟨by omega, hrel⟩, by omega, leN_of [(0, 0), (2, 2), (3, 3)] ?_⟩
      simp [mapB, mapO, mapX, refB, refO, refX, lS', lS, wrap64_id (n := (i : Int) + 1) (by omega) (by omega)]
    · have ht1 : 1 ≤ nn := by
        by_cases h : nn < 1
        · exact absurd (.inl h) ht
        · omega
      have ht2 : ∃ e ∈ F, nn ≤ (e.2 : Int) := by
        apply Classical.byContradiction
        intro hno
        exact ht (.inr fun e he hle => hno ⟨e, he, hle⟩)
      obtain ⟨k, rfl⟩ : ∃ k : Nat, nn = k := ⟨nn.toNat, by omega⟩
      obtain ⟨j, hj, hkj, hlt⟩ : ∃ (j : Nat) (hj : j < F.length), k ≤ F[j].2 ∧ ∀ p (hp : p < F.length), p < j → F[p].2 < k := by
        have hfind : ∀ (G : List Ext), (∃ e ∈ G, (k : Int) ≤ (e.2 : Int)) → ∃ (j : Nat) (hj : j < G.length), k ≤ G[j].2 ∧ ∀ p (hp : p < G.length), p < j → G[p].2 < k := by
          intro G
          induction G with
          | nil => rintro ⟨e, he, _⟩; simp at he
          | cons e G ih =>
            intro hex
            by_cases hc : k ≤ e.2
            · exact ⟨0, by simp, by simpa using hc, fun p _ hp => by omega⟩
            · obtain ⟨x, hx, hkx⟩ := hex
              rcases List.mem_cons.1 hx with rfl | hx
              · omega
              · obtain ⟨j, hj, h1, h2⟩ := ih ⟨x, hx, hkx⟩
                refine ⟨j + 1, by simpa using hj, by simpa using h1, fun p hp hpj => ?_⟩
                cases p with
                | zero => simp; omega
                | succ p => simpa using h2 p (by simpa using hp) (by omega)
        exact hfind F ht2
      have hrt := hr.take hj (by omega) hkj
      have ref20 : GenC Try.prog 20 [.obj 6 0, .p (.int k)] ⟨refB 6 4 5 S T, [], 11⟩ (.agg true [.p (extP (F[j].1, k)), .p (.bool true)]) ⟨refB 6 4 5 (setR S F[j].1 k 2) T, [], 11⟩ := by
        have e := hr.runs
        subst e
        exact rtake20s 6 4 5 11 (by constructor <;> omega) S T (by omega) (by omega) k j (by omega) hj hkj hlt
      have m9 := take9s 1 0 2 3 8 n (by constructor <;> omega) F R W k j (hr.oF.nrm (by omega)) (hr.oR.nrm (by omega)) (by omega) hj hkj hlt
      generalize F[j].1 = x at *
      simp [c0, ha, c1', mapB, mapO, mapX, refB, refO, refX]
      refine gcall_of0 m9 (by simp) (by simp [sub1, mapB, mapO, mapX, refB, refO, refX]) trivial rfl ?_
      simp [mapB, mapO, mapX, refB, refO, refX]
      refine gcall_of0 ref20 (by simp) (by simp [sub1, mapB, mapO, mapX, refB, refO, refX]) trivial rfl ?_
      simp [mapB, mapO, mapX, refB, refO, refX]
      have hrel : Rel n (cutL F (x, k)) (putL R (x, k)) (W) (setR S x k 2) (T) := hrt
      generalize (cutL F (x, k)) = F' at *
      generalize (putL R (x, k)) = R' at *
      generalize (W) = W' at *
      generalize (setR S x k 2) = S' at *
      generalize (T) = T' at *
      have lS' := hrel.lS
      have lT' := hrel.lT
      have lF' := hrel.oF.len
      have x26 := rfree26 S' T' (by omega)
      have x27 := rwait27 S' T' (by omega) (by omega)
      rw [hrel.free] at x26
      rw [hrel.wait] at x27
      have x28 := runs28 6 4 5 13 (by constructor <;> omega) S' T' (by omega)
      rw [hrel.runs] at x28
      have x10 := free10 1 8 9 3 12 n (by constructor <;> omega) F' R' W' (hrel.oF.nrm (by omega))
      have x17 := waiting17 1 8 9 3 12 n (by constructor <;> omega) F' R' W' (hrel.oW.nrm (by omega))
      have x14 := runs14 1 8 9 3 12 n (by constructor <;> omega) F' R' W' (by omega)
      refine gcall_of0 x10 (by simp) (by simp [sub1, mapB, mapO, mapX]) trivial rfl ?_
      simp [mapB, mapO, mapX, refB, refO, refX]
      refine bcall_of0 x26 ⟨bor_ref (s := 4) (t := 5) (by simp [refO, refX, lS', lS]) (by simp) (by simp) (by omega), trivial⟩ rfl ?_
      simp
      refine gcall_of0 x17 (by simp) (by simp [sub1, mapB, mapO, mapX]) trivial rfl ?_
      simp [mapB, mapO, mapX, refB, refO, refX]
      refine bcall_of0 x27 ⟨bor_ref (s := 4) (t := 5) (by simp [refO, refX, lS', lS]) (by simp) (by simp) (by omega), trivial⟩ rfl ?_
      simp
      refine gcall_of0 x14 (by simp) (by simp [sub1, mapB, mapO, mapX]) trivial rfl ?_
      simp [mapB, mapO, mapX, refB, refO, refX]
      refine gcall_of0 x28 (by simp) (by simp [sub1, refB, refO, refX, lS', lS]) trivial rfl ?_
      simp [mapB, mapO, mapX, refB, refO, refX]
      refine bcall_of0 (same13P F' (by omega)) ⟨bor_set (by simp) rfl, bor_set (by simp) rfl, trivial⟩ rfl ?_
      simp
      refine ⟨i + 1, F', R', W', S', T', ⟨by omega, hrel⟩, by omega, leN_of [(0, 8), (2, 9), (3, 3)] ?_⟩
      simp [mapB, mapO, mapX, refB, refO, refX, lS', lS, wrap64_id (n := (i : Int) + 1) (by omega) (by omega)]
  by_cases k1 : kd = 1
  · subst k1
    have p21 := rpieces21 6 4 5 10 (by constructor <;> omega) S T (by omega) (by omega) nn mo
    rw [hr.runs] at p21
    have p11 := pieces11 1 0 2 3 8 n (by constructor <;> omega) (by omega) F R W hr.oF hr.oR hr.dR nn mo
    have hrp := hr.pieces nn mo
    have hpc : (if piecesB F nn mo = true then pcsL F nn.toNat else []).length ≤ 100000 := by
      have := pcsL_len F nn.toNat
      split
      · omega
      · simp
    have hsm := same13P _ hpc
    generalize (if piecesB F nn mo = true then (pcsL F nn.toNat).foldl cutL F else F) = F1 at *
    generalize (if piecesB F nn mo = true then (pcsL F nn.toNat).foldl putL R else R) = R1 at *
    generalize (if piecesB F nn mo = true then setX S (pcsL F nn.toNat) else S) = S1 at *
    generalize (if piecesB F nn mo = true then pcsL F nn.toNat else []) = P1 at *
    generalize piecesB F nn mo = B1 at *
    simp [c0, ha, c1', mapB, mapO, mapX, refB, refO, refX]
    refine gcall_of0 p11 (by simp) (by simp [sub1, mapB, mapO, mapX, refB, refO, refX]) trivial rfl ?_
    simp [mapB, mapO, mapX, refB, refO, refX]
    refine gcall_of0 p21 (by simp) (by simp [sub1, mapB, mapO, mapX, refB, refO, refX]) trivial rfl ?_
    simp [mapB, mapO, mapX, refB, refO, refX]
    refine pcall_of hsm (by simp) ?_
    simp
    have hrel : Rel n (F1) (R1) (W) (S1) (T) := hrp
    generalize (F1) = F' at *
    generalize (R1) = R' at *
    generalize (W) = W' at *
    generalize (S1) = S' at *
    generalize (T) = T' at *
    have lS' := hrel.lS
    have lT' := hrel.lT
    have lF' := hrel.oF.len
    have x26 := rfree26 S' T' (by omega)
    have x27 := rwait27 S' T' (by omega) (by omega)
    rw [hrel.free] at x26
    rw [hrel.wait] at x27
    have x28 := runs28 6 4 5 11 (by constructor <;> omega) S' T' (by omega)
    rw [hrel.runs] at x28
    have x10 := free10 1 8 9 3 10 n (by constructor <;> omega) F' R' W' (hrel.oF.nrm (by omega))
    have x17 := waiting17 1 8 9 3 10 n (by constructor <;> omega) F' R' W' (hrel.oW.nrm (by omega))
    have x14 := runs14 1 8 9 3 10 n (by constructor <;> omega) F' R' W' (by omega)
    refine gcall_of0 x10 (by simp) (by simp [sub1, mapB, mapO, mapX]) trivial rfl ?_
    simp [mapB, mapO, mapX, refB, refO, refX]
    refine bcall_of0 x26 ⟨bor_ref (s := 4) (t := 5) (by simp [refO, refX, lS', lS]) (by simp) (by simp) (by omega), trivial⟩ rfl ?_
    simp
    refine gcall_of0 x17 (by simp) (by simp [sub1, mapB, mapO, mapX]) trivial rfl ?_
    simp [mapB, mapO, mapX, refB, refO, refX]
    refine bcall_of0 x27 ⟨bor_ref (s := 4) (t := 5) (by simp [refO, refX, lS', lS]) (by simp) (by simp) (by omega), trivial⟩ rfl ?_
    simp
    refine gcall_of0 x14 (by simp) (by simp [sub1, mapB, mapO, mapX]) trivial rfl ?_
    simp [mapB, mapO, mapX, refB, refO, refX]
    refine gcall_of0 x28 (by simp) (by simp [sub1, refB, refO, refX, lS', lS]) trivial rfl ?_
    simp [mapB, mapO, mapX, refB, refO, refX]
    refine bcall_of0 (same13P F' (by omega)) ⟨bor_set (by simp) rfl, bor_set (by simp) rfl, trivial⟩ rfl ?_
    simp
    refine ⟨i + 1, F', R', W', S', T', ⟨by omega, hrel⟩, by omega, leN_of [(0, 8), (2, 9), (3, 3)] ?_⟩
    simp [mapB, mapO, mapX, refB, refO, refX, lS', lS, wrap64_id (n := (i : Int) + 1) (by omega) (by omega)]
  by_cases k2 : kd = 2
  · subst k2
    have m18 := hold18 1 0 2 3 9 n (by constructor <;> omega) (by omega) F R W hr.oF hr.oR hr.oW es (by omega)
    have r22 := rhold22 6 4 5 10 (by constructor <;> omega) S T (by omega) (by omega) es (by omega)
    rw [hr.holdB] at r22
    have hrp := hr.hold es
    generalize (if holdB n F es = true then (es.map toE).foldl cutL F else F) = F1 at *
    generalize (if holdB n F es = true then setEs S es 1 else S) = S1 at *
    generalize holdB n F es = B1 at *
    simp [c0, ha, c1', mapB, mapO, mapX, refB, refO, refX]
    refine ⟨ew', by omega, by omega, ?_⟩
    refine gcall_of0 m18 (by simp) (by simp [sub1, mapB, mapO, mapX, refB, refO, refX]) trivial rfl ?_
    simp [mapB, mapO, mapX, refB, refO, refX]
    refine gcall_of0 r22 (by simp) (by simp [sub1, mapB, mapO, mapX, refB, refO, refX]) trivial rfl ?_
    simp [mapB, mapO, mapX, refB, refO, refX]
    have hrel : Rel n (F1) (R) (W) (S1) (T) := hrp
    generalize (F1) = F' at *
    generalize (R) = R' at *
    generalize (W) = W' at *
    generalize (S1) = S' at *
    generalize (T) = T' at *
    have lS' := hrel.lS
    have lT' := hrel.lT
    have lF' := hrel.oF.len
    have x26 := rfree26 S' T' (by omega)
    have x27 := rwait27 S' T' (by omega) (by omega)
    rw [hrel.free] at x26
    rw [hrel.wait] at x27
    have x28 := runs28 6 4 5 11 (by constructor <;> omega) S' T' (by omega)
    rw [hrel.runs] at x28
    have x10 := free10 1 9 2 3 10 n (by constructor <;> omega) F' R' W' (hrel.oF.nrm (by omega))
    have x17 := waiting17 1 9 2 3 10 n (by constructor <;> omega) F' R' W' (hrel.oW.nrm (by omega))
    have x14 := runs14 1 9 2 3 10 n (by constructor <;> omega) F' R' W' (by omega)
    refine gcall_of0 x10 (by simp) (by simp [sub1, mapB, mapO, mapX]) trivial rfl ?_
    simp [mapB, mapO, mapX, refB, refO, refX]
    refine bcall_of0 x26 ⟨bor_ref (s := 4) (t := 5) (by simp [refO, refX, lS', lS]) (by simp) (by simp) (by omega), trivial⟩ rfl ?_
    simp
    refine gcall_of0 x17 (by simp) (by simp [sub1, mapB, mapO, mapX]) trivial rfl ?_
    simp [mapB, mapO, mapX, refB, refO, refX]
    refine bcall_of0 x27 ⟨bor_ref (s := 4) (t := 5) (by simp [refO, refX, lS', lS]) (by simp) (by simp) (by omega), trivial⟩ rfl ?_
    simp
    refine gcall_of0 x14 (by simp) (by simp [sub1, mapB, mapO, mapX]) trivial rfl ?_
    simp [mapB, mapO, mapX, refB, refO, refX]
    refine gcall_of0 x28 (by simp) (by simp [sub1, refB, refO, refX, lS', lS]) trivial rfl ?_
    simp [mapB, mapO, mapX, refB, refO, refX]
    refine bcall_of0 (same13P F' (by omega)) ⟨bor_set (by simp) rfl, bor_set (by simp) rfl, trivial⟩ rfl ?_
    simp
    refine ⟨i + 1, F', R', W', S', T', ⟨by omega, hrel⟩, by omega, leN_of [(0, 9), (2, 2), (3, 3)] ?_⟩
    simp [mapB, mapO, mapX, refB, refO, refX, lS', lS, wrap64_id (n := (i : Int) + 1) (by omega) (by omega)]
  by_cases k3 : kd = 3
  · subst k3
    have m16 := give16 1 0 2 3 9 n (by constructor <;> omega) (by omega) F R W hr.oF hr.oR hr.oW es (by omega)
    have r23 := rgive23 6 4 5 10 (by constructor <;> omega) S T (by omega) (by omega) es (by omega)
    rw [hr.giveB] at r23
    have hrp := hr.gives es
    generalize (if giveB n F W es = true then (es.map toE).foldl putL W else W) = W1 at *
    generalize (if giveB n F W es = true then setEs T es true else T) = T1 at *
    generalize giveB n F W es = B1 at *
    simp [c0, ha, c1', mapB, mapO, mapX, refB, refO, refX]
    refine ⟨ew', by omega, by omega, ?_⟩
    refine gcall_of0 m16 (by simp) (by simp [sub1, mapB, mapO, mapX, refB, refO, refX]) trivial rfl ?_
    simp [mapB, mapO, mapX, refB, refO, refX]
    refine gcall_of0 r23 (by simp) (by simp [sub1, mapB, mapO, mapX, refB, refO, refX]) trivial rfl ?_
    simp [mapB, mapO, mapX, refB, refO, refX]
    have hrel : Rel n (F) (R) (W1) (S) (T1) := hrp
    generalize (F) = F' at *
    generalize (R) = R' at *
    generalize (W1) = W' at *
    generalize (S) = S' at *
    generalize (T1) = T' at *
    have lS' := hrel.lS
    have lT' := hrel.lT
    have lF' := hrel.oF.len
    have x26 := rfree26 S' T' (by omega)
    have x27 := rwait27 S' T' (by omega) (by omega)
    rw [hrel.free] at x26
    rw [hrel.wait] at x27
    have x28 := runs28 6 4 5 11 (by constructor <;> omega) S' T' (by omega)
    rw [hrel.runs] at x28
    have x10 := free10 1 0 2 9 10 n (by constructor <;> omega) F' R' W' (hrel.oF.nrm (by omega))
    have x17 := waiting17 1 0 2 9 10 n (by constructor <;> omega) F' R' W' (hrel.oW.nrm (by omega))
    have x14 := runs14 1 0 2 9 10 n (by constructor <;> omega) F' R' W' (by omega)
    refine gcall_of0 x10 (by simp) (by simp [sub1, mapB, mapO, mapX]) trivial rfl ?_
    simp [mapB, mapO, mapX, refB, refO, refX]
    refine bcall_of0 x26 ⟨bor_ref (s := 4) (t := 5) (by simp [refO, refX, lS', lS]) (by simp) (by simp) (by omega), trivial⟩ rfl ?_
    simp
    refine gcall_of0 x17 (by simp) (by simp [sub1, mapB, mapO, mapX]) trivial rfl ?_
    simp [mapB, mapO, mapX, refB, refO, refX]
    refine bcall_of0 x27 ⟨bor_ref (s := 4) (t := 5) (by simp [refO, refX, lS', lS]) (by simp) (by simp) (by omega), trivial⟩ rfl ?_
    simp
    refine gcall_of0 x14 (by simp) (by simp [sub1, mapB, mapO, mapX]) trivial rfl ?_
    simp [mapB, mapO, mapX, refB, refO, refX]
    refine gcall_of0 x28 (by simp) (by simp [sub1, refB, refO, refX, lS', lS]) trivial rfl ?_
    simp [mapB, mapO, mapX, refB, refO, refX]
    refine bcall_of0 (same13P F' (by omega)) ⟨bor_set (by simp) rfl, bor_set (by simp) rfl, trivial⟩ rfl ?_
    simp
    refine ⟨i + 1, F', R', W', S', T', ⟨by omega, hrel⟩, by omega, leN_of [(0, 0), (2, 2), (3, 9)] ?_⟩
    simp [mapB, mapO, mapX, refB, refO, refX, lS', lS, wrap64_id (n := (i : Int) + 1) (by omega) (by omega)]
  by_cases k4 : kd = 4
  · subst k4
    have m15 := commit15 1 0 2 3 8 n (by constructor <;> omega) (by omega) F R W hr.oF hr.oW (fun s h1 h2 => hr.dW s h2 h1)
    have r24 := rcommit24 6 4 5 11 (by constructor <;> omega) S T (by omega) (by omega)
    have hrp := hr.commit
    simp [c0, ha, c1', mapB, mapO, mapX, refB, refO, refX]
    refine gcall_of0 m15 (by simp) (by simp [sub1, mapB, mapO, mapX, refB, refO, refX]) trivial rfl ?_
    simp [mapB, mapO, mapX, refB, refO, refX]
    refine gcall_of0 r24 (by simp) (by simp [sub1, mapB, mapO, mapX, refB, refO, refX]) trivial rfl ?_
    simp [mapB, mapO, mapX, refB, refO, refX]
    have hrel : Rel n (W.foldl putL F) (([] : List Ext)) (([] : List Ext)) (cmN S T S.length) (flN T S.length) := hrp
    generalize (W.foldl putL F) = F' at *


    generalize (cmN S T S.length) = S' at *
    generalize (flN T S.length) = T' at *
    have lS' := hrel.lS
    have lT' := hrel.lT
    have lF' := hrel.oF.len
    have x26 := rfree26 S' T' (by omega)
    have x27 := rwait27 S' T' (by omega) (by omega)
    rw [hrel.free] at x26
    rw [hrel.wait] at x27
    have x28 := runs28 6 4 5 12 (by constructor <;> omega) S' T' (by omega)
    rw [hrel.runs] at x28
    have x10 := free10 1 8 9 10 11 n (by constructor <;> omega) F' [] [] (hrel.oF.nrm (by omega))
    have x17 := waiting17 1 8 9 10 11 n (by constructor <;> omega) F' [] [] (hrel.oW.nrm (by omega))
    have x14 := runs14 1 8 9 10 11 n (by constructor <;> omega) F' [] [] (by omega)
    refine gcall_of0 x10 (by simp) (by simp [sub1, mapB, mapO, mapX]) trivial rfl ?_
    simp [mapB, mapO, mapX, refB, refO, refX]
    refine bcall_of0 x26 ⟨bor_ref (s := 4) (t := 5) (by simp [refO, refX, lS', lS]) (by simp) (by simp) (by omega), trivial⟩ rfl ?_
    simp
    refine gcall_of0 x17 (by simp) (by simp [sub1, mapB, mapO, mapX]) trivial rfl ?_
    simp [mapB, mapO, mapX, refB, refO, refX]
    refine bcall_of0 x27 ⟨bor_ref (s := 4) (t := 5) (by simp [refO, refX, lS', lS]) (by simp) (by simp) (by omega), trivial⟩ rfl ?_
    simp
    refine gcall_of0 x14 (by simp) (by simp [sub1, mapB, mapO, mapX]) trivial rfl ?_
    simp [mapB, mapO, mapX, refB, refO, refX]
    refine gcall_of0 x28 (by simp) (by simp [sub1, refB, refO, refX, lS', lS]) trivial rfl ?_
    simp [mapB, mapO, mapX, refB, refO, refX]
    refine bcall_of0 (same13P F' (by omega)) ⟨bor_set (by simp) rfl, bor_set (by simp) rfl, trivial⟩ rfl ?_
    simp
    refine ⟨i + 1, F', [], [], S', T', ⟨by omega, hrel⟩, by omega, leN_of [(0, 8), (2, 9), (3, 10)] ?_⟩
    simp [mapB, mapO, mapX, refB, refO, refX, lS', lS, wrap64_id (n := (i : Int) + 1) (by omega) (by omega)]
  by_cases k5 : kd = 5
  · subst k5
    have m12 := abort12 1 0 2 3 8 n (by constructor <;> omega) (by omega) F R W hr.oF hr.oR hr.dR
    have r25 := rabort25 6 4 5 11 (by constructor <;> omega) S T (by omega) (by omega)
    have hrp := hr.abort
    simp [c0, ha, c1', mapB, mapO, mapX, refB, refO, refX]
    refine gcall_of0 m12 (by simp) (by simp [sub1, mapB, mapO, mapX, refB, refO, refX]) trivial rfl ?_
    simp [mapB, mapO, mapX, refB, refO, refX]
    refine gcall_of0 r25 (by simp) (by simp [sub1, mapB, mapO, mapX, refB, refO, refX]) trivial rfl ?_
    simp [mapB, mapO, mapX, refB, refO, refX]
    have hrel : Rel n (R.foldl putL F) (([] : List Ext)) (([] : List Ext)) (abN S S.length) (flN T S.length) := hrp
    generalize (R.foldl putL F) = F' at *


    generalize (abN S S.length) = S' at *
    generalize (flN T S.length) = T' at *
    have lS' := hrel.lS
    have lT' := hrel.lT
    have lF' := hrel.oF.len
    have x26 := rfree26 S' T' (by omega)
    have x27 := rwait27 S' T' (by omega) (by omega)
    rw [hrel.free] at x26
    rw [hrel.wait] at x27
    have x28 := runs28 6 4 5 12 (by constructor <;> omega) S' T' (by omega)
    rw [hrel.runs] at x28
    have x10 := free10 1 8 9 10 11 n (by constructor <;> omega) F' [] [] (hrel.oF.nrm (by omega))
    have x17 := waiting17 1 8 9 10 11 n (by constructor <;> omega) F' [] [] (hrel.oW.nrm (by omega))
    have x14 := runs14 1 8 9 10 11 n (by constructor <;> omega) F' [] [] (by omega)
    refine gcall_of0 x10 (by simp) (by simp [sub1, mapB, mapO, mapX]) trivial rfl ?_
    simp [mapB, mapO, mapX, refB, refO, refX]
    refine bcall_of0 x26 ⟨bor_ref (s := 4) (t := 5) (by simp [refO, refX, lS', lS]) (by simp) (by simp) (by omega), trivial⟩ rfl ?_
    simp
    refine gcall_of0 x17 (by simp) (by simp [sub1, mapB, mapO, mapX]) trivial rfl ?_
    simp [mapB, mapO, mapX, refB, refO, refX]
    refine bcall_of0 x27 ⟨bor_ref (s := 4) (t := 5) (by simp [refO, refX, lS', lS]) (by simp) (by simp) (by omega), trivial⟩ rfl ?_
    simp
    refine gcall_of0 x14 (by simp) (by simp [sub1, mapB, mapO, mapX]) trivial rfl ?_
    simp [mapB, mapO, mapX, refB, refO, refX]
    refine gcall_of0 x28 (by simp) (by simp [sub1, refB, refO, refX, lS', lS]) trivial rfl ?_
    simp [mapB, mapO, mapX, refB, refO, refX]
    refine bcall_of0 (same13P F' (by omega)) ⟨bor_set (by simp) rfl, bor_set (by simp) rfl, trivial⟩ rfl ?_
    simp
    refine ⟨i + 1, F', [], [], S', T', ⟨by omega, hrel⟩, by omega, leN_of [(0, 8), (2, 9), (3, 10)] ?_⟩
    simp [mapB, mapO, mapX, refB, refO, refX, lS', lS, wrap64_id (n := (i : Int) + 1) (by omega) (by omega)]
  have z0 : (kd == 0) = false := by simpa using k0
  have z1 : (kd == 1) = false := by simpa using k1
  have z2 : (kd == 2) = false := by simpa using k2
  have z3 : (kd == 3) = false := by simpa using k3
  have z4 : (kd == 4) = false := by simpa using k4
  have z5 : (kd == 5) = false := by simpa using k5
  simp [c0, ha, c1', z0, z1, z2, z3, z4, z5, mapB, mapO, mapX, refB, refO, refX]
  have hrel : Rel n (F) (R) (W) (S) (T) := hr
  generalize (F) = F' at *
  generalize (R) = R' at *
  generalize (W) = W' at *
  generalize (S) = S' at *
  generalize (T) = T' at *
  have lS' := hrel.lS
  have lT' := hrel.lT
  have lF' := hrel.oF.len
  have x26 := rfree26 S' T' (by omega)
  have x27 := rwait27 S' T' (by omega) (by omega)
  rw [hrel.free] at x26
  rw [hrel.wait] at x27
  have x28 := runs28 6 4 5 9 (by constructor <;> omega) S' T' (by omega)
  rw [hrel.runs] at x28
  have x10 := free10 1 0 2 3 8 n (by constructor <;> omega) F' R' W' (hrel.oF.nrm (by omega))
  have x17 := waiting17 1 0 2 3 8 n (by constructor <;> omega) F' R' W' (hrel.oW.nrm (by omega))
  have x14 := runs14 1 0 2 3 8 n (by constructor <;> omega) F' R' W' (by omega)
  refine gcall_of0 x10 (by simp) (by simp [sub1, mapB, mapO, mapX]) trivial rfl ?_
  simp [mapB, mapO, mapX, refB, refO, refX]
  refine bcall_of0 x26 ⟨bor_ref (s := 4) (t := 5) (by simp [refO, refX, lS', lS]) (by simp) (by simp) (by omega), trivial⟩ rfl ?_
  simp
  refine gcall_of0 x17 (by simp) (by simp [sub1, mapB, mapO, mapX]) trivial rfl ?_
  simp [mapB, mapO, mapX, refB, refO, refX]
  refine bcall_of0 x27 ⟨bor_ref (s := 4) (t := 5) (by simp [refO, refX, lS', lS]) (by simp) (by simp) (by omega), trivial⟩ rfl ?_
  simp
  refine gcall_of0 x14 (by simp) (by simp [sub1, mapB, mapO, mapX]) trivial rfl ?_
  simp [mapB, mapO, mapX, refB, refO, refX]
  refine gcall_of0 x28 (by simp) (by simp [sub1, refB, refO, refX, lS', lS]) trivial rfl ?_
  simp [mapB, mapO, mapX, refB, refO, refX]
  refine bcall_of0 (same13P F' (by omega)) ⟨bor_set (by simp) rfl, bor_set (by simp) rfl, trivial⟩ rfl ?_
  simp
  refine ⟨i + 1, F', R', W', S', T', ⟨by omega, hrel⟩, by omega, leN_of [(0, 0), (2, 2), (3, 3)] ?_⟩
  simp [mapB, mapO, mapX, refB, refO, refX, lS', lS, wrap64_id (n := (i : Int) + 1) (by omega) (by omega)]
end Go.Av

/-! part P16ao -/
namespace Go.Av
open Go.Proofs

theorem cellsT29 : Try.prog.cellsOf 29 = 2 := by kernel_rfl
theorem cellsT34 : Try.prog.cellsOf 34 = 1 := by kernel_rfl
theorem cellsT46 : Try.prog.cellsOf 46 = 4 := by kernel_rfl
def extS (x : PC) : Prop := ∃ e : Int × Int, x = extI e
def actS (x : PC) : Prop := ∃ a : ActV, x = actP a
def actsS (x : PC) : Prop := ∃ l : List ActV, x = .sl (l.map actP)
theorem list_of {α : Type} {f : α → PC} {xs : List PC} (h : ∀ x ∈ xs, ∃ a, x = f a) : ∃ l : List α, xs = l.map f := by
  induction xs with
  | nil => exact ⟨[], rfl⟩
  | cons x xs ih =>
    obtain ⟨l, rfl⟩ := ih fun y hy => h y (by simp [hy])
    obtain ⟨a, rfl⟩ := h x (by simp)
    exact ⟨a :: l, rfl⟩
theorem rdE : RdU Try.prog 29 extS := by
  refine (rd_struct (Ss := [_, _]) Try.underlying29 (by rw [cellsT29]; simp [totF, cellsT3])
    ⟨rfl, (rd_int Try.underlying3).c, (by simp [cellsT3]), (rd_int Try.underlying3).c, trivial⟩).mono ?_
  rintro x ⟨ys, rfl, h⟩
  match ys, h with
  | [a, b], ⟨⟨n, ha, _⟩, ⟨m, hb, _⟩, _⟩ =>
    subst ha; subst hb
    exact ⟨(n, m), rfl⟩
  | [], h => exact h.elim
  | [_], h => exact h.2.elim
  | _ :: _ :: _ :: _, h => exact h.2.2.elim
theorem rdA : RdU Try.prog 46 actS := by
  refine (rd_struct (Ss := [_, _, _, _]) Try.underlying46 (by rw [cellsT46]; simp [totF, cellsT3, cellsT34])
    ⟨rfl, (rd_int Try.underlying3).c, (by simp [cellsT3]), (rd_int Try.underlying3).c, (by simp [cellsT3]), (rd_int Try.underlying3).c, (by simp [cellsT3]), rd_slice Try.underlying34 (by rw [cellsT29]; omega) rdE, trivial⟩).mono ?_
  rintro x ⟨ys, rfl, h⟩
  match ys, h with
  | [a, b, c, d], ⟨⟨n, ha, _⟩, ⟨m, hb, _⟩, ⟨o, hc, _⟩, ⟨vs, hd, _, hv⟩, _⟩ =>
    obtain ⟨l, rfl⟩ := list_of (f := extI) hv
    subst ha; subst hb; subst hc; subst hd
    exact ⟨⟨n, m, o, l⟩, rfl⟩
  | [], h => exact h.elim
  | [_], h => exact h.2.elim
  | [_, _], h => exact h.2.2.elim
  | [_, _, _], h => exact h.2.2.2.elim
  | _ :: _ :: _ :: _ :: _ :: _, h => exact h.2.2.2.2.elim
theorem rd42 : RdV Try.prog 42 actsS :=
  rv_one (by rw [Try.underlying42]; simp) (by rw [Try.underlying42]; simp) ((rd_slice Try.underlying42 (by rw [cellsT46]; omega) rdA).mono fun x ⟨xs, h, _, hv⟩ => by
    obtain ⟨l, rfl⟩ := list_of (f := actP) hv; exact ⟨l, h⟩) (by rintro x ⟨l, rfl⟩ b xs h; cases h)
theorem law6n {x y : PC} (hx : intS x) (hy : actsS y) : PureC Try.prog 6 [x, y] (.bool true) := by
  obtain ⟨a, rfl, _⟩ := hx
  obtain ⟨l, rfl⟩ := hy
  exact law6 a l
end Go.Av
