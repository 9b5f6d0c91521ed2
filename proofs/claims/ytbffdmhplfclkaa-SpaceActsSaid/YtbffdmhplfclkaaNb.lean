/- What a map's methods do, for every map of at most a thousand sectors. -/
import Derived.Test.YtbffdmhplfclkaaNa
set_option linter.all false
/-! part P16g -/
namespace Go.Av
open Go.Proofs

/-- extents apart, in their order -/
structure Nrm (L : List Ext) : Prop where
  pos : ∀ e ∈ L, 1 ≤ e.2
  gap : L.Pairwise fun a b => a.1 + a.2 < b.1
  top : ∀ e ∈ L, e.1 + e.2 ≤ 65536
  len : L.length ≤ 1000
theorem Nrm.up {L : List Ext} (h : Nrm L) : Up L := h.gap.imp fun h => by omega
theorem Nrm.aft_at {L : List Ext} (h : Nrm L) {i : Nat} (hi : i < L.length) : aft L L[i].1 = i := by
  refine aft_eq (by omega) (fun p hp hpi => ?_) (fun hp => ?_)
  · have := List.pairwise_iff_getElem.1 h.gap p i hp hi hpi; omega
  · have := h.pos L[i] (by simp); omega

@[reducible] def mapX (n f r w : Nat) (F R W : List Ext) : List AV := [.p (.int n), .view f 0 F.length 2 none, .view r 0 R.length 2 none, .view w 0 W.length 2 none]
@[reducible] def mapO (n f r w : Nat) (F R W : List Ext) : Ob := ⟨51, 4, mapX n f r w F R W⟩
/-- a map: its own object, and its three rows -/
@[reducible] def mapB (m f r w n : Nat) (F R W : List Ext) : List (Nat × Ob) := [(m, mapO n f r w F R W), (f, rowO F), (r, rowO R), (w, rowO W)]
structure Ids (m f r w nx : Nat) : Prop where
  hm : m < nx
  hf : f < nx
  hr : r < nx
  hw : w < nx
  mf : m ≠ f
  mr : m ≠ r
  mw : m ≠ w
  fr : f ≠ r
  fw : f ≠ w
  rw : r ≠ w

theorem take31 (m f r w nx n : Nat) (h : Ids m f r w nx) (F R W : List Ext) (e : Ext) (hF : Nrm F) (hR : Nrm R) (hh : hasB F e = true) (he : e.1 + e.2 ≤ 65536) :
    GenC Try.prog 31 [.obj m 0, .p (extP e)] ⟨mapB m f r w n F R W, [], nx⟩ (.agg true []) ⟨mapB m nx (nx + 1) w n (cutL F e) (putL R e) W, [], nx + 2⟩ := by
  obtain ⟨hm, hf, hr, hw, mf, mr, mw, fr, fw, rw_⟩ := h
  have fm_ := Ne.symm mf
  have rm_ := Ne.symm mr
  have wm_ := Ne.symm mw
  have rf_ := Ne.symm fr
  have wf_ := Ne.symm fw
  have wr_ := Ne.symm rw_
  have q1 : ¬ m = nx := by omega
  have p1 : ¬ nx = m := by omega
  have q2 : ¬ m = nx + 1 := by omega
  have p2 : ¬ nx + 1 = m := by omega
  have lm1 : m < nx + 1 := by omega
  have lm2 : m < nx + 1 + 1 := by omega
  have km : m < nx + 2 := by omega
  have q3 : ¬ f = nx := by omega
  have p3 : ¬ nx = f := by omega
  have q4 : ¬ f = nx + 1 := by omega
  have p4 : ¬ nx + 1 = f := by omega
  have lf1 : f < nx + 1 := by omega
  have lf2 : f < nx + 1 + 1 := by omega
  have kf : f < nx + 2 := by omega
  have q5 : ¬ r = nx := by omega
  have p5 : ¬ nx = r := by omega
  have q6 : ¬ r = nx + 1 := by omega
  have p6 : ¬ nx + 1 = r := by omega
  have lr1 : r < nx + 1 := by omega
  have lr2 : r < nx + 1 + 1 := by omega
  have kr : r < nx + 2 := by omega
  have q7 : ¬ w = nx := by omega
  have p7 : ¬ nx = w := by omega
  have q8 : ¬ w = nx + 1 := by omega
  have p8 : ¬ nx + 1 = w := by omega
  have lw1 : w < nx + 1 := by omega
  have lw2 : w < nx + 1 + 1 := by omega
  have kw : w < nx + 2 := by omega
  refine gen_of_aw (rs := []) [] [(1, [(4, .w [])]), (2, [(4, .w [])])] [] mixed Try.func31 rfl (by kernel_rfl) (by kernel_rfl) (by simp [Try.ntmps31]) rfl ?_
  simp [mapB, mapO, mapX]
  refine gcall_of0 (cut41 nx m f hm hf mf 51 4 1 (mapX n f r w F R W) F e (by simp) (by simp [hf, hr, hw]) hF.up hF.len (fun e he => by have := hF.top e he; omega) hh) (by simp) (by simp [sub1, mf, fm_, mr, rm_, mw, wm_, fr, rf_, fw, wf_, rw_, wr_, q1, p1, q2, p2, hm, lm1, lm2, km, q3, p3, q4, p4, hf, lf1, lf2, kf, q5, p5, q6, p6, hr, lr1, lr2, kr, q7, p7, q8, p8, hw, lw1, lw2, kw]) trivial rfl ?_
  simp [mapX, mf, fm_, mr, rm_, mw, wm_, fr, rf_, fw, wf_, rw_, wr_, q1, p1, q2, p2, hm, lm1, lm2, km, q3, p3, q4, p4, hf, lf1, lf2, kf, q5, p5, q6, p6, hr, lr1, lr2, kr, q7, p7, q8, p8, hw, lw1, lw2, kw]
  refine gcall_of0 (put33 (nx + 1) m r (by omega) (by omega) mr 51 4 2 (mapX n nx r w (cutL F e) R W) R e (by simp) (by simp; omega) hR.up hR.len (fun e he => by have := hR.top e he; omega) (by omega)) (by simp) (by simp [sub1, mapX, mf, fm_, mr, rm_, mw, wm_, fr, rf_, fw, wf_, rw_, wr_, q1, p1, q2, p2, hm, lm1, lm2, km, q3, p3, q4, p4, hf, lf1, lf2, kf, q5, p5, q6, p6, hr, lr1, lr2, kr, q7, p7, q8, p8, hw, lw1, lw2, kw]) trivial rfl ?_
  simp [mapX, mf, fm_, mr, rm_, mw, wm_, fr, rf_, fw, wf_, rw_, wr_, q1, p1, q2, p2, hm, lm1, lm2, km, q3, p3, q4, p4, hf, lf1, lf2, kf, q5, p5, q6, p6, hr, lr1, lr2, kr, q7, p7, q8, p8, hw, lw1, lw2, kw]
  exact ⟨[], by simp [mf, fm_, mr, rm_, mw, wm_, fr, rf_, fw, wf_, rw_, wr_, q1, p1, q2, p2, hm, lm1, lm2, km, q3, p3, q4, p4, hf, lf1, lf2, kf, q5, p5, q6, p6, hr, lr1, lr2, kr, q7, p7, q8, p8, hw, lw1, lw2, kw]⟩

/-- the first that is so; -1: there is none -/
def idxE (q : Ext → Bool) (L : List Ext) : Int := if (L.takeWhile fun e => !q e).length < L.length then ((L.takeWhile fun e => !q e).length : Int) else -1
theorem takeWhile_eq {α : Type} {p : α → Bool} {l : List α} {k : Nat} (h : ∀ x ∈ l.take k, p x = true) (hk : k ≤ l.length) (he : ∀ hk : k < l.length, p l[k] = false) : (l.takeWhile p).length = k := by
  induction l generalizing k with
  | nil => simp at hk; subst hk; rfl
  | cons a l ih =>
    cases k with
    | zero => have := he (by simp); simp at this; simp [this]
    | succ k =>
      have ha := h a (by simp)
      have := ih (k := k) (fun x hx => h x (by simp [hx])) (by simpa using hk) (fun hk' => by have := he (by simp; omega); simpa using this)
      simp [ha, this]
theorem index29 {g : FuncId} {caps : List PC} (q : Ext → Bool) (vs : List Ext) (hk : vs.length ≤ 1000000) (h : ∀ s ∈ vs, PureC Try.prog g (extP s :: caps) (.bool (q s))) :
    PureC Try.prog 29 [setP vs, .fn (.func g) caps] (.int (idxE q vs)) := by
  refine pure_of_aw (ys := [_]) [] [] [] mixed Try.func29 rfl (by kernel_rfl) (by kernel_rfl) (by simp [Try.ntmps29]) rfl ?_
  simp
  refine aw_loop0 (fun k : Nat => k ≤ vs.length ∧ ∀ x ∈ vs.take k, (!q x) = true) (fun k => [(0, .p (setP vs)), (1, .p (.fn (.func g) caps)), (7, .p (.int vs.length)), (8, .p (.int k))]) (fun k => vs.length - k) 0 (by simp) (leN_id (by simp)) ?_
  rintro k ⟨h1, h2⟩
  by_cases c1 : k < vs.length
  · simp [c1]
    refine pcall_of (h vs[k] (by simp)) (by simp) ?_
    by_cases c2 : q vs[k] = true
    · have e := takeWhile_eq (p := fun v => !q v) h2 h1 (fun _ => by simpa using c2)
      simp [c2, idxE, e, c1, Try.results29]
    · simp [c2]
      refine ⟨k + 1, ⟨by omega, ?_⟩, by omega, leN_id ?_⟩
      · intro a b hx
        rw [List.take_succ_eq_append_getElem c1] at hx
        rcases List.mem_append.1 hx with hx | hx
        · simpa using h2 (a, b) hx
        · simp only [List.mem_singleton] at hx; rw [hx]; simpa using c2
      · simp [wrap64_id (n := (k : Int) + 1) (by omega) (by omega)]
  · have e := takeWhile_eq (p := fun v => !q v) h2 h1 (fun h => absurd h c1)
    simp [e, c1, idxE, Try.results29]
theorem index47 {g : FuncId} {caps : List PC} (q : Ext → Bool) (vs : List Ext) (hk : vs.length ≤ 1000000) (h : ∀ s ∈ vs, PureC Try.prog g (extP s :: caps) (.bool (q s))) :
    PureC Try.prog 47 [setP vs, .fn (.func g) caps] (.int (idxE q vs)) := by
  refine pure_of_aw (ys := [_]) [] [] [] mixed Try.func47 rfl (by kernel_rfl) (by kernel_rfl) (by simp [Try.ntmps47]) rfl ?_
  simp
  refine aw_loop0 (fun k : Nat => k ≤ vs.length ∧ ∀ x ∈ vs.take k, (!q x) = true) (fun k => [(0, .p (setP vs)), (1, .p (.fn (.func g) caps)), (7, .p (.int vs.length)), (8, .p (.int k))]) (fun k => vs.length - k) 0 (by simp) (leN_id (by simp)) ?_
  rintro k ⟨h1, h2⟩
  by_cases c1 : k < vs.length
  · simp [c1]
    refine pcall_of (h vs[k] (by simp)) (by simp) ?_
    by_cases c2 : q vs[k] = true
    · have e := takeWhile_eq (p := fun v => !q v) h2 h1 (fun _ => by simpa using c2)
      simp [c2, idxE, e, c1, Try.results47]
    · simp [c2]
      refine ⟨k + 1, ⟨by omega, ?_⟩, by omega, leN_id ?_⟩
      · intro a b hx
        rw [List.take_succ_eq_append_getElem c1] at hx
        rcases List.mem_append.1 hx with hx | hx
        · simpa using h2 (a, b) hx
        · simp only [List.mem_singleton] at hx; rw [hx]; simpa using c2
      · simp [wrap64_id (n := (k : Int) + 1) (by omega) (by omega)]
  · have e := takeWhile_eq (p := fun v => !q v) h2 h1 (fun h => absurd h c1)
    simp [e, c1, idxE, Try.results47]
theorem idxE_any (q : Ext → Bool) (vs : List Ext) : decide (0 ≤ idxE q vs) = vs.any q := by
  unfold idxE
  induction vs with
  | nil => rfl
  | cons a l ih =>
    cases h : q a with
    | true => simp [h]
    | false =>
      simp only [List.takeWhile_cons, h, Bool.not_false, if_true, List.length_cons, Nat.add_lt_add_iff_right, List.any_cons, Bool.false_or]
      rw [← ih]
      split <;> simp <;> omega
theorem contains36 {g : FuncId} {caps : List PC} (q : Ext → Bool) (vs : List Ext) (hk : vs.length ≤ 1000000) (h : ∀ s ∈ vs, PureC Try.prog g (extP s :: caps) (.bool (q s))) :
    PureC Try.prog 36 [setP vs, .fn (.func g) caps] (.bool (vs.any q)) := by
  refine pure_of_aw (ys := [_]) [] [] [] mixed Try.func36 rfl (by kernel_rfl) (by kernel_rfl) (by simp [Try.ntmps36]) rfl ?_
  simp
  refine pcall_of (index47 q vs hk h) (by simp) ?_
  simp [Try.results36, ← idxE_any]
theorem wide30 (e : Ext) (n : Int) : PureC Try.prog 30 [extP e, .ref (.int n)] (.bool (decide (n ≤ (e.2 : Int)))) := by
  refine pure_of_aw (ys := [_]) [] [] [] mixed Try.func30 rfl (by kernel_rfl) (by kernel_rfl) (by simp [Try.ntmps30]) rfl ?_
  simp [Try.results30]
end Go.Av

/-! part P16h -/
namespace Go.Av
open Go.Proofs

theorem bor_setP {m f r w n : Nat} {F R W : List Ext} {nx : Nat} (h : Ids m f r w nx) : borF (mapB m f r w n F R W) 4 (.view f 0 F.length 2 none) (setP F) ∧ borF (mapB m f r w n F R W) 4 (.view w 0 W.length 2 none) (setP W) := by
  obtain ⟨hm, hf, hr, hw, mf, mr, mw, fr, fw, rw_⟩ := h
  have fm_ := Ne.symm mf
  have rm_ := Ne.symm mr
  have wm_ := Ne.symm mw
  have rf_ := Ne.symm fr
  have wf_ := Ne.symm fw
  have wr_ := Ne.symm rw_
  have q1 : ¬ m = nx := by omega
  have p1 : ¬ nx = m := by omega
  have lm1 : m < nx + 1 := by omega
  have q2 : ¬ f = nx := by omega
  have p2 : ¬ nx = f := by omega
  have lf1 : f < nx + 1 := by omega
  have q3 : ¬ r = nx := by omega
  have p3 : ¬ nx = r := by omega
  have lr1 : r < nx + 1 := by omega
  have q4 : ¬ w = nx := by omega
  have p4 : ¬ nx = w := by omega
  have lw1 : w < nx + 1 := by omega
  exact ⟨bor_set (by simp [mapB, mf, fm_, mr, rm_, mw, wm_, fr, rf_, fw, wf_, rw_, wr_, q1, p1, hm, lm1, q2, p2, hf, lf1, q3, p3, hr, lr1, q4, p4, hw, lw1]) rfl, bor_set (by simp [mapB, mf, fm_, mr, rm_, mw, wm_, fr, rf_, fw, wf_, rw_, wr_, q1, p1, hm, lm1, q2, p2, hf, lf1, q3, p3, hr, lr1, q4, p4, hw, lw1]) rfl⟩

/-- how many are free, how many wait -/
theorem free10 (m f r w nx n : Nat) (h : Ids m f r w nx) (F R W : List Ext) (hF : Nrm F) :
    GenC Try.prog 10 [.obj m 0] ⟨mapB m f r w n F R W, [], nx⟩ (.p (.int (szL F))) ⟨mapB m f r w n F R W, [], nx⟩ := by
  have hb := (bor_setP (n := n) (F := F) (R := R) (W := W) h).1
  obtain ⟨hm, hf, hr, hw, mf, mr, mw, fr, fw, rw_⟩ := h
  have fm_ := Ne.symm mf
  have rm_ := Ne.symm mr
  have wm_ := Ne.symm mw
  have rf_ := Ne.symm fr
  have wf_ := Ne.symm fw
  have wr_ := Ne.symm rw_
  have q1 : ¬ m = nx := by omega
  have p1 : ¬ nx = m := by omega
  have lm1 : m < nx + 1 := by omega
  have q2 : ¬ f = nx := by omega
  have p2 : ¬ nx = f := by omega
  have lf1 : f < nx + 1 := by omega
  have q3 : ¬ r = nx := by omega
  have p3 : ¬ nx = r := by omega
  have lr1 : r < nx + 1 := by omega
  have q4 : ¬ w = nx := by omega
  have p4 : ¬ nx = w := by omega
  have lw1 : w < nx + 1 := by omega
  refine gen_of_aw (rs := [_]) [] [] [] mixed Try.func10 rfl (by kernel_rfl) (by kernel_rfl) (by simp [Try.ntmps10]) rfl ?_
  simp [mapB, mapO, mapX]
  refine bcall_of0 (size32 F (by have := hF.len; omega) (fun e he => by have := hF.top e he; omega)) ⟨hb, trivial⟩ rfl ?_
  simp [Try.results10]
  exact ⟨[], by simp [mf, fm_, mr, rm_, mw, wm_, fr, rf_, fw, wf_, rw_, wr_, q1, p1, hm, lm1, q2, p2, hf, lf1, q3, p3, hr, lr1, q4, p4, hw, lw1]⟩
theorem waiting17 (m f r w nx n : Nat) (h : Ids m f r w nx) (F R W : List Ext) (hW : Nrm W) :
    GenC Try.prog 17 [.obj m 0] ⟨mapB m f r w n F R W, [], nx⟩ (.p (.int (szL W))) ⟨mapB m f r w n F R W, [], nx⟩ := by
  have hb := (bor_setP (n := n) (F := F) (R := R) (W := W) h).2
  obtain ⟨hm, hf, hr, hw, mf, mr, mw, fr, fw, rw_⟩ := h
  have fm_ := Ne.symm mf
  have rm_ := Ne.symm mr
  have wm_ := Ne.symm mw
  have rf_ := Ne.symm fr
  have wf_ := Ne.symm fw
  have wr_ := Ne.symm rw_
  have q1 : ¬ m = nx := by omega
  have p1 : ¬ nx = m := by omega
  have lm1 : m < nx + 1 := by omega
  have q2 : ¬ f = nx := by omega
  have p2 : ¬ nx = f := by omega
  have lf1 : f < nx + 1 := by omega
  have q3 : ¬ r = nx := by omega
  have p3 : ¬ nx = r := by omega
  have lr1 : r < nx + 1 := by omega
  have q4 : ¬ w = nx := by omega
  have p4 : ¬ nx = w := by omega
  have lw1 : w < nx + 1 := by omega
  refine gen_of_aw (rs := [_]) [] [] [] mixed Try.func17 rfl (by kernel_rfl) (by kernel_rfl) (by simp [Try.ntmps17]) rfl ?_
  simp [mapB, mapO, mapX]
  refine bcall_of0 (size32 W (by have := hW.len; omega) (fun e he => by have := hW.top e he; omega)) ⟨hb, trivial⟩ rfl ?_
  simp [Try.results17]
  exact ⟨[], by simp [mf, fm_, mr, rm_, mw, wm_, fr, rf_, fw, wf_, rw_, wr_, q1, p1, hm, lm1, q2, p2, hf, lf1, q3, p3, hr, lr1, q4, p4, hw, lw1]⟩

/-- nothing that is wide enough -/
theorem take9n (m f r w nx n : Nat) (h : Ids m f r w nx) (F R W : List Ext) (k : Int) (hF : Nrm F) (hk : k < 1 ∨ ∀ e ∈ F, ¬ k ≤ (e.2 : Int)) :
    GenC Try.prog 9 [.obj m 0, .p (.int k)] ⟨mapB m f r w n F R W, [], nx⟩ (.agg true [.p (extP (0, 0)), .p (.bool false)]) ⟨mapB m f r w n F R W, [], nx⟩ := by
  have hb := (bor_setP (n := n) (F := F) (R := R) (W := W) h).1
  have hi := index29 (g := 30) (caps := [.ref (.int k)]) (fun e => decide (k ≤ (e.2 : Int))) F (by have := hF.len; omega) (fun e _ => wide30 e k)
  have hneg : k < 1 ∨ (idxE (fun e => decide (k ≤ (e.2 : Int))) F < 0) := by
    rcases hk with hk | hk
    · exact .inl hk
    · refine .inr ?_
      have := idxE_any (fun e => decide (k ≤ (e.2 : Int))) F
      have h2 : F.any (fun e => decide (k ≤ (e.2 : Int))) = false := by
        rw [List.any_eq_false]; intro e he; simpa using hk e he
      rw [h2] at this
      simp only [decide_eq_false_iff_not] at this
      omega
  generalize idxE (fun e => decide (k ≤ (e.2 : Int))) F = i at *
  obtain ⟨hm, hf, hr, hw, mf, mr, mw, fr, fw, rw_⟩ := h
  have fm_ := Ne.symm mf
  have rm_ := Ne.symm mr
  have wm_ := Ne.symm mw
  have rf_ := Ne.symm fr
  have wf_ := Ne.symm fw
  have wr_ := Ne.symm rw_
  have q1 : ¬ m = nx := by omega
  have p1 : ¬ nx = m := by omega
  have lm1 : m < nx + 1 := by omega
  have q2 : ¬ f = nx := by omega
  have p2 : ¬ nx = f := by omega
  have lf1 : f < nx + 1 := by omega
  have q3 : ¬ r = nx := by omega
  have p3 : ¬ nx = r := by omega
  have lr1 : r < nx + 1 := by omega
  have q4 : ¬ w = nx := by omega
  have p4 : ¬ nx = w := by omega
  have lw1 : w < nx + 1 := by omega
  refine gen_of_aw (rs := [_, _]) [] [(4, [(3, .r 1), (7, .r 2), (10, .w [1, 2]), (11, .s 3 [1, 2])])] [(1, m), (2, f), (3, nx + 1)] mixed Try.func9 rfl (by kernel_rfl) (by kernel_rfl) (by simp [Try.ntmps9]) rfl ?_
  simp [mapB, mapO, mapX, mf, fm_, mr, rm_, mw, wm_, fr, rf_, fw, wf_, rw_, wr_, q1, p1, hm, lm1, q2, p2, hf, lf1, q3, p3, hr, lr1, q4, p4, hw, lw1]
  refine bcall_of0 hi ⟨bor_set (by simp [mf, fm_, mr, rm_, mw, wm_, fr, rf_, fw, wf_, rw_, wr_, q1, p1, hm, lm1, q2, p2, hf, lf1, q3, p3, hr, lr1, q4, p4, hw, lw1]) rfl, by simp [borF], trivial⟩ rfl ?_
  by_cases c : k < 1
  · simp [c, Try.results9, mf, fm_, mr, rm_, mw, wm_, fr, rf_, fw, wf_, rw_, wr_, q1, p1, hm, lm1, q2, p2, hf, lf1, q3, p3, hr, lr1, q4, p4, hw, lw1]
    exact ⟨[], by simp [mf, fm_, mr, rm_, mw, wm_, fr, rf_, fw, wf_, rw_, wr_, q1, p1, hm, lm1, q2, p2, hf, lf1, q3, p3, hr, lr1, q4, p4, hw, lw1]⟩
  · have c2 : i < 0 := by omega
    simp [c, c2, Try.results9, mf, fm_, mr, rm_, mw, wm_, fr, rf_, fw, wf_, rw_, wr_, q1, p1, hm, lm1, q2, p2, hf, lf1, q3, p3, hr, lr1, q4, p4, hw, lw1]
    exact ⟨[], by simp [mf, fm_, mr, rm_, mw, wm_, fr, rf_, fw, wf_, rw_, wr_, q1, p1, hm, lm1, q2, p2, hf, lf1, q3, p3, hr, lr1, q4, p4, hw, lw1]⟩

/-- the first that is wide enough -/
theorem take9s (m f r w nx n : Nat) (h : Ids m f r w nx) (F R W : List Ext) (k i : Nat) (hF : Nrm F) (hR : Nrm R) (hk : 1 ≤ k) (hi : i < F.length) (hki : k ≤ F[i].2) (hlt : ∀ p (hp : p < F.length), p < i → F[p].2 < k) :
    GenC Try.prog 9 [.obj m 0, .p (.int k)] ⟨mapB m f r w n F R W, [], nx⟩ (.agg true [.p (extP (F[i].1, k)), .p (.bool true)])
      ⟨mapB m nx (nx + 1) w n (cutL F (F[i].1, k)) (putL R (F[i].1, k)) W, [], nx + 2⟩ := by
  have hq : idxE (fun e => decide ((k : Int) ≤ (e.2 : Int))) F = i := by
    unfold idxE
    have : (F.takeWhile fun e => !decide ((k : Int) ≤ (e.2 : Int))).length = i := takeWhile_eq (fun x hx => by
      obtain ⟨p, hp, rfl⟩ := List.getElem_of_mem hx
      simp at hp ⊢
      exact hlt p (by omega) (by omega)) (by omega) (fun _ => by simpa using hki)
    rw [this, if_pos hi]
  have hix := index29 (g := 30) (caps := [.ref (.int k)]) (fun e => decide ((k : Int) ≤ (e.2 : Int))) F (by have := hF.len; omega) (fun e _ => wide30 e k)
  rw [hq] at hix
  have htop := hF.top F[i] (by simp)
  have hh : hasB F (F[i].1, k) = true := by
    unfold hasB; simp only; rw [hF.aft_at hi]; simp [hi]; exact hki
  have g := cellsL_at hi
  have g1 : ∀ h', (cellsL F)[i * 2]'h' = .int F[i].1 := fun h' => by have := g.1; rw [List.getElem?_eq_getElem h'] at this; injection this
  have hids := h
  obtain ⟨hm, hf, hr, hw, mf, mr, mw, fr, fw, rw_⟩ := h
  have fm_ := Ne.symm mf
  have rm_ := Ne.symm mr
  have wm_ := Ne.symm mw
  have rf_ := Ne.symm fr
  have wf_ := Ne.symm fw
  have wr_ := Ne.symm rw_
  have q1 : ¬ m = nx := by omega
  have p1 : ¬ nx = m := by omega
  have q2 : ¬ m = nx + 1 := by omega
  have p2 : ¬ nx + 1 = m := by omega
  have q3 : ¬ m = nx + 1 + 1 := by omega
  have p3 : ¬ nx + 1 + 1 = m := by omega
  have q4 : ¬ m = nx + 1 + 1 + 1 := by omega
  have p4 : ¬ nx + 1 + 1 + 1 = m := by omega
  have q5 : ¬ m = nx + 1 + 1 + 1 + 1 := by omega
  have p5 : ¬ nx + 1 + 1 + 1 + 1 = m := by omega
  have lm1 : m < nx + 1 := by omega
  have lm2 : m < nx + 1 + 1 := by omega
  have lm3 : m < nx + 1 + 1 + 1 := by omega
  have lm4 : m < nx + 1 + 1 + 1 + 1 := by omega
  have lm5 : m < nx + 1 + 1 + 1 + 1 + 1 := by omega
  have km : m < nx + 5 := by omega
  have q6 : ¬ f = nx := by omega
  have p6 : ¬ nx = f := by omega
  have q7 : ¬ f = nx + 1 := by omega
  have p7 : ¬ nx + 1 = f := by omega
  have q8 : ¬ f = nx + 1 + 1 := by omega
  have p8 : ¬ nx + 1 + 1 = f := by omega
  have q9 : ¬ f = nx + 1 + 1 + 1 := by omega
  have p9 : ¬ nx + 1 + 1 + 1 = f := by omega
  have q10 : ¬ f = nx + 1 + 1 + 1 + 1 := by omega
  have p10 : ¬ nx + 1 + 1 + 1 + 1 = f := by omega
  have lf1 : f < nx + 1 := by omega
  have lf2 : f < nx + 1 + 1 := by omega
  have lf3 : f < nx + 1 + 1 + 1 := by omega
  have lf4 : f < nx + 1 + 1 + 1 + 1 := by omega
  have lf5 : f < nx + 1 + 1 + 1 + 1 + 1 := by omega
  have kf : f < nx + 5 := by omega
  have q11 : ¬ r = nx := by omega
  have p11 : ¬ nx = r := by omega
  have q12 : ¬ r = nx + 1 := by omega
  have p12 : ¬ nx + 1 = r := by omega
  have q13 : ¬ r = nx + 1 + 1 := by omega
  have p13 : ¬ nx + 1 + 1 = r := by omega
  have q14 : ¬ r = nx + 1 + 1 + 1 := by omega
  have p14 : ¬ nx + 1 + 1 + 1 = r := by omega
  have q15 : ¬ r = nx + 1 + 1 + 1 + 1 := by omega
  have p15 : ¬ nx + 1 + 1 + 1 + 1 = r := by omega
  have lr1 : r < nx + 1 := by omega
  have lr2 : r < nx + 1 + 1 := by omega
  have lr3 : r < nx + 1 + 1 + 1 := by omega
  have lr4 : r < nx + 1 + 1 + 1 + 1 := by omega
  have lr5 : r < nx + 1 + 1 + 1 + 1 + 1 := by omega
  have kr : r < nx + 5 := by omega
  have q16 : ¬ w = nx := by omega
  have p16 : ¬ nx = w := by omega
  have q17 : ¬ w = nx + 1 := by omega
  have p17 : ¬ nx + 1 = w := by omega
  have q18 : ¬ w = nx + 1 + 1 := by omega
  have p18 : ¬ nx + 1 + 1 = w := by omega
  have q19 : ¬ w = nx + 1 + 1 + 1 := by omega
  have p19 : ¬ nx + 1 + 1 + 1 = w := by omega
  have q20 : ¬ w = nx + 1 + 1 + 1 + 1 := by omega
  have p20 : ¬ nx + 1 + 1 + 1 + 1 = w := by omega
  have lw1 : w < nx + 1 := by omega
  have lw2 : w < nx + 1 + 1 := by omega
  have lw3 : w < nx + 1 + 1 + 1 := by omega
  have lw4 : w < nx + 1 + 1 + 1 + 1 := by omega
  have lw5 : w < nx + 1 + 1 + 1 + 1 + 1 := by omega
  have kw : w < nx + 5 := by omega
  have hT := take31 m f r w (nx + 2) n ⟨by omega, by omega, by omega, by omega, mf, mr, mw, fr, fw, rw_⟩ F R W (F[i].1, k) hF hR hh (by simp only; omega)
  have c0 : decide ((k : Int) < 1) = false := by simp; omega
  refine gen_of_aw (rs := [_, _]) [] [(4, [(3, .r 1), (7, .r 2), (10, .w [1, 2]), (11, .s 3 [1, 2])])] [(1, m), (2, f), (3, nx + 1)] mixed Try.func9 rfl (by kernel_rfl) (by kernel_rfl) (by simp [Try.ntmps9]) rfl ?_
  simp [mapB, mapO, mapX, mf, fm_, mr, rm_, mw, wm_, fr, rf_, fw, wf_, rw_, wr_, q1, p1, q2, p2, q3, p3, q4, p4, q5, p5, hm, lm1, lm2, lm3, lm4, lm5, km, q6, p6, q7, p7, q8, p8, q9, p9, q10, p10, hf, lf1, lf2, lf3, lf4, lf5, kf, q11, p11, q12, p12, q13, p13, q14, p14, q15, p15, hr, lr1, lr2, lr3, lr4, lr5, kr, q16, p16, q17, p17, q18, p18, q19, p19, q20, p20, hw, lw1, lw2, lw3, lw4, lw5, kw]
  refine bcall_of0 hix ⟨bor_set (by simp [mf, fm_, mr, rm_, mw, wm_, fr, rf_, fw, wf_, rw_, wr_, q1, p1, q2, p2, q3, p3, q4, p4, q5, p5, hm, lm1, lm2, lm3, lm4, lm5, km, q6, p6, q7, p7, q8, p8, q9, p9, q10, p10, hf, lf1, lf2, lf3, lf4, lf5, kf, q11, p11, q12, p12, q13, p13, q14, p14, q15, p15, hr, lr1, lr2, lr3, lr4, lr5, kr, q16, p16, q17, p17, q18, p18, q19, p19, q20, p20, hw, lw1, lw2, lw3, lw4, lw5, kw]) rfl, by simp [borF], trivial⟩ rfl ?_
  have hkz : k ≠ 0 := by omega
  simp [c0, hkz, hi, g.1, g1, mf, fm_, mr, rm_, mw, wm_, fr, rf_, fw, wf_, rw_, wr_, q1, p1, q2, p2, q3, p3, q4, p4, q5, p5, hm, lm1, lm2, lm3, lm4, lm5, km, q6, p6, q7, p7, q8, p8, q9, p9, q10, p10, hf, lf1, lf2, lf3, lf4, lf5, kf, q11, p11, q12, p12, q13, p13, q14, p14, q15, p15, hr, lr1, lr2, lr3, lr4, lr5, kr, q16, p16, q17, p17, q18, p18, q19, p19, q20, p20, hw, lw1, lw2, lw3, lw4, lw5, kw]
  refine gcall_of0 hT (by simp) (by simp [sub1, mapB, mapO, mapX, mf, fm_, mr, rm_, mw, wm_, fr, rf_, fw, wf_, rw_, wr_, q1, p1, q2, p2, q3, p3, q4, p4, q5, p5, hm, lm1, lm2, lm3, lm4, lm5, km, q6, p6, q7, p7, q8, p8, q9, p9, q10, p10, hf, lf1, lf2, lf3, lf4, lf5, kf, q11, p11, q12, p12, q13, p13, q14, p14, q15, p15, hr, lr1, lr2, lr3, lr4, lr5, kr, q16, p16, q17, p17, q18, p18, q19, p19, q20, p20, hw, lw1, lw2, lw3, lw4, lw5, kw]) trivial rfl ?_
  simp [mapB, mapO, mapX, mf, fm_, mr, rm_, mw, wm_, fr, rf_, fw, wf_, rw_, wr_, q1, p1, q2, p2, q3, p3, q4, p4, q5, p5, hm, lm1, lm2, lm3, lm4, lm5, km, q6, p6, q7, p7, q8, p8, q9, p9, q10, p10, hf, lf1, lf2, lf3, lf4, lf5, kf, q11, p11, q12, p12, q13, p13, q14, p14, q15, p15, hr, lr1, lr2, lr3, lr4, lr5, kr, q16, p16, q17, p17, q18, p18, q19, p19, q20, p20, hw, lw1, lw2, lw3, lw4, lw5, kw, Try.results9]
  exact ⟨[(nx, nx + 2), (nx + 1, nx + 2 + 1)], by simp [mf, fm_, mr, rm_, mw, wm_, fr, rf_, fw, wf_, rw_, wr_, q1, p1, q2, p2, q3, p3, q4, p4, q5, p5, hm, lm1, lm2, lm3, lm4, lm5, km, q6, p6, q7, p7, q8, p8, q9, p9, q10, p10, hf, lf1, lf2, lf3, lf4, lf5, kf, q11, p11, q12, p12, q13, p13, q14, p14, q15, p15, hr, lr1, lr2, lr3, lr4, lr5, kr, q16, p16, q17, p17, q18, p18, q19, p19, q20, p20, hw, lw1, lw2, lw3, lw4, lw5, kw]; omega⟩
end Go.Av

/-! part P16i -/
namespace Go.Av
open Go.Proofs

/-- the same, to whoever looks -/
theorem gen_eqv {P : Program} {f : FuncId} {xs : List AV} {tb tb' tb'' : Tb} {r : AV} (h : GenC P f xs tb r tb') (hb : ∀ i o, lk i tb''.bx = some o → lk i tb'.bx = some o) (hr : ∀ i o, lk i tb''.rw = some o → lk i tb'.rw = some o) (hn : tb'.nx ≤ tb''.nx) :
    GenC P f xs tb r tb'' :=
  gen_le h fun _ _ _ g _ _ hw hv => ⟨g, G.le_refl g, hw.sub hb hr hn, hv⟩

theorem new8n (nx : Nat) (n : Int) (h : n < 1 ∨ 65536 < n) : GenC Try.prog 8 [.p (.int n)] ⟨[], [], nx⟩ (.agg true [.p (.sc (.pointer none)), .p (.int 2)]) ⟨[], [], nx⟩ := by
  refine gen_of_aw (rs := [_, _]) [13, 15] [] [] mixed Try.func8 rfl (by kernel_rfl) (by kernel_rfl) (by simp [Try.ntmps8]) rfl ?_
  by_cases c : n < 1
  · simp [c, Try.results8]
    exact ⟨[], by simp⟩
  · have c2 : 65536 < n := by omega
    simp [c, c2, Try.results8]
    exact ⟨[], by simp⟩
theorem new8 (nx n : Nat) (h1 : 1 ≤ n) (h2 : n ≤ 65536) : GenC Try.prog 8 [.p (.int n)] ⟨[], [], nx⟩ (.agg true [.obj (nx + 1) 0, .p (.int 0)]) ⟨mapB (nx + 1) nx (nx + 2) (nx + 3) n [(0, n)] [] [], [], nx + 4⟩ := by
  have c1 : decide ((n : Int) < 1) = false := by simp; omega
  have c2 : decide ((65536 : Int) < n) = false := by simp; omega
  have key : GenC Try.prog 8 [.p (.int n)] ⟨[], [], nx⟩ (.agg true [.obj (nx + 1) 0, .p (.int 0)]) ⟨[(nx + 1, ⟨51, 4, [.p (.int n), .view nx 0 1 2 (some 1), .p .nil, .p .nil]⟩), (nx, rowO [(0, n)])], [], nx + 2⟩ := by
    refine gen_of_aw (rs := [_, _]) [13, 15] [] [] mixed Try.func8 rfl (by kernel_rfl) (by kernel_rfl) (by simp [Try.ntmps8]) rfl ?_
    simp [c1, c2, Try.results8, cellsL_cons]
    exact ⟨[], by simp⟩
  have k1 : GenC Try.prog 8 [.p (.int n)] ⟨[], [], nx⟩ (.agg true [.obj (nx + 1) 0, .p (.int 0)]) ⟨[(nx + 1, ⟨51, 4, [.p (.int n), .view nx 0 1 2 none, .p .nil, .p .nil]⟩), (nx, rowO [(0, n)])], [], nx + 2⟩ := by
    simpa [Tb.setOb, del] using gen_weakO (id := nx + 1) (j := 1) (x := .view nx 0 1 2 (some 1)) (ob := ⟨51, 4, [.p (.int n), .view nx 0 1 2 (some 1), .p .nil, .p .nil]⟩) (.view nx 0 1 2 none) key (by simp [lk]) rfl (by simp)
  have k2 : GenC Try.prog 8 [.p (.int n)] ⟨[], [], nx⟩ (.agg true [.obj (nx + 1) 0, .p (.int 0)]) ⟨[(nx + 1, ⟨51, 4, [.p (.int n), .view nx 0 1 2 none, .view (nx + 2) 0 0 2 none, .p .nil]⟩), (nx + 2, rowO []), (nx, rowO [(0, n)])], [], nx + 3⟩ := by
    have t := gen_voidO (id := nx + 1) (j := 2) (ob := ⟨51, 4, [.p (.int n), .view nx 0 1 2 none, .p .nil, .p .nil]⟩) 29 2 k1 (by simp [lk]) rfl
    simp [Tb.setOb, Tb.addOb, del] at t
    exact t
  have k3 : GenC Try.prog 8 [.p (.int n)] ⟨[], [], nx⟩ (.agg true [.obj (nx + 1) 0, .p (.int 0)]) ⟨[(nx + 1, ⟨51, 4, [.p (.int n), .view nx 0 1 2 none, .view (nx + 2) 0 0 2 none, .view (nx + 3) 0 0 2 none]⟩), (nx + 3, rowO []), (nx + 2, rowO []), (nx, rowO [(0, n)])], [], nx + 4⟩ := by
    have t := gen_voidO (id := nx + 1) (j := 3) (ob := ⟨51, 4, [.p (.int n), .view nx 0 1 2 none, .view (nx + 2) 0 0 2 none, .p .nil]⟩) 29 2 k2 (by simp [lk]) rfl
    simp [Tb.setOb, Tb.addOb, del] at t
    exact t
  refine gen_eqv k3 (fun i o ho => ?_) (fun i o ho => ho) (Nat.le_refl _)
  simp only [mapB, mapO, mapX, lk] at ho ⊢
  split at ho
  · rename_i h; rw [if_pos h]; exact ho
  · split at ho
    · rename_i h; subst h; simp; simpa using ho
    · split at ho
      · rename_i h; subst h; simp; simpa using ho
      · split at ho
        · rename_i h; subst h; simp; simpa using ho
        · cases ho
end Go.Av

/-! part P16j -/
namespace Go.Av

/-- sectors -/
def inE (e : Ext) (s : Nat) : Prop := e.1 ≤ s ∧ s < e.1 + e.2
def mem (L : List Ext) (s : Nat) : Prop := ∃ e ∈ L, inE e s
/-- apart, and none of which touch -/
structure Nr (L : List Ext) : Prop where
  pos : ∀ e ∈ L, 1 ≤ e.2
  gap : L.Pairwise fun a b => a.1 + a.2 < b.1
theorem Nrm.nr {L : List Ext} (h : Nrm L) : Nr L := ⟨h.pos, h.gap⟩
theorem Nr.up {L : List Ext} (h : Nr L) : Up L := h.gap.imp fun h => by omega
theorem nr_nil : Nr [] := ⟨by simp, .nil⟩
theorem nr_one {e : Ext} (h : 1 ≤ e.2) : Nr [e] := ⟨by simpa using h, by simp⟩
theorem nr_append {A B : List Ext} : Nr (A ++ B) ↔ Nr A ∧ Nr B ∧ ∀ a ∈ A, ∀ b ∈ B, a.1 + a.2 < b.1 := by
  constructor
  · rintro ⟨h1, h2⟩
    obtain ⟨h3, h4, h5⟩ := List.pairwise_append.1 h2
    exact ⟨⟨fun e he => h1 e (by simp [he]), h3⟩, ⟨fun e he => h1 e (by simp [he]), h4⟩, h5⟩
  · rintro ⟨⟨h1, h2⟩, ⟨h3, h4⟩, h5⟩
    exact ⟨fun e he => by rcases List.mem_append.1 he with h | h; exact h1 e h; exact h3 e h, List.pairwise_append.2 ⟨h2, h4, h5⟩⟩
theorem nr_cons {e : Ext} {B : List Ext} : Nr (e :: B) ↔ 1 ≤ e.2 ∧ Nr B ∧ ∀ b ∈ B, e.1 + e.2 < b.1 := by
  constructor
  · rintro ⟨h1, h2⟩
    obtain ⟨h3, h4⟩ := List.pairwise_cons.1 h2
    exact ⟨h1 e (by simp), ⟨fun e he => h1 e (by simp [he]), h4⟩, h3⟩
  · rintro ⟨h0, ⟨h3, h4⟩, h5⟩
    exact ⟨fun x hx => by rcases List.mem_cons.1 hx with rfl | h; exact h0; exact h3 x h, List.pairwise_cons.2 ⟨h5, h4⟩⟩
theorem mem_append {A B : List Ext} {s : Nat} : mem (A ++ B) s ↔ mem A s ∨ mem B s := by
  unfold mem; simp only [List.mem_append]
  constructor
  · rintro ⟨e, h | h, k⟩; exact .inl ⟨e, h, k⟩; exact .inr ⟨e, h, k⟩
  · rintro (⟨e, h, k⟩ | ⟨e, h, k⟩); exact ⟨e, .inl h, k⟩; exact ⟨e, .inr h, k⟩
theorem mem_cons {e : Ext} {B : List Ext} {s : Nat} : mem (e :: B) s ↔ inE e s ∨ mem B s := by
  unfold mem; simp only [List.mem_cons]
  constructor
  · rintro ⟨x, rfl | h, k⟩; exact .inl k; exact .inr ⟨x, h, k⟩
  · rintro (k | ⟨x, h, k⟩); exact ⟨e, .inl rfl, k⟩; exact ⟨x, .inr h, k⟩
@[simp] theorem mem_nil {s : Nat} : ¬ mem [] s := by rintro ⟨e, h, _⟩; simp at h

/-- what ends ahead of a sector, and what doesn't -/
theorem aft_split {L : List Ext} (h : Nr L) (t : Nat) : (∀ a ∈ L.take (aft L t), a.1 + a.2 ≤ t) ∧ (∀ b ∈ L.drop (aft L t), t < b.1 + b.2) := by
  have key : ∀ (L : List Ext), Up L → (∀ a ∈ L.take (aft L t), a.1 + a.2 ≤ t) ∧ (∀ b ∈ L.drop (aft L t), t < b.1 + b.2) := by
    intro L
    induction L with
    | nil => intro _; simp [aft]
    | cons e L ih =>
      intro hU
      obtain ⟨h1, h2⟩ := List.pairwise_cons.1 hU
      by_cases c : e.1 + e.2 ≤ t
      · have ea : aft (e :: L) t = aft L t + 1 := by simp [aft, c]
        rw [ea]
        obtain ⟨i1, i2⟩ := ih h2
        refine ⟨fun a ha => ?_, fun b hb => i2 b (by simpa using hb)⟩
        simp at ha
        rcases ha with rfl | ha
        · exact c
        · exact i1 a ha
      · have ea : aft (e :: L) t = 0 := by simp [aft, c]
        rw [ea]
        refine ⟨by simp, fun b hb => ?_⟩
        simp at hb
        rcases hb with rfl | hb
        · omega
        · have := h1 b hb; omega
  exact key L h.up

theorem mt_iff {L : List Ext} (h : Nr L) (e : Ext) (he : 1 ≤ e.2) : mtB L e = true ↔ ∃ s, inE e s ∧ mem L s := by
  obtain ⟨h1, h2⟩ := aft_split h e.1
  unfold mtB
  have hsp : L = L.take (aft L e.1) ++ L.drop (aft L e.1) := (List.take_append_drop _ _).symm
  generalize aft L e.1 = i at *
  have hg : L[i]? = (L.drop i)[0]? := by simp
  rw [hg]
  rw [hsp] at h
  have hm : ∀ s, mem L s ↔ mem (L.take i) s ∨ mem (L.drop i) s := fun s => by rw [← mem_append, ← hsp]
  generalize L.take i = A at *
  generalize L.drop i = B at *
  obtain ⟨hA, hB, hAB⟩ := nr_append.1 h
  cases B with
  | nil =>
    simp
    intro s hs hms
    rw [hm] at hms
    rcases hms with ⟨a, ha, hs2⟩ | hms
    · have := h1 a ha; unfold inE at hs hs2; omega
    · exact absurd hms mem_nil
  | cons x B =>
    simp
    have hx := h2 x (by simp)
    have px := hB.pos x (by simp)
    constructor
    · intro hlt
      by_cases c : e.1 ≤ x.1
      · exact ⟨x.1, ⟨c, hlt⟩, (hm _).2 (.inr (mem_cons.2 (.inl ⟨Nat.le_refl _, by omega⟩)))⟩
      · exact ⟨e.1, ⟨Nat.le_refl _, by omega⟩, (hm _).2 (.inr (mem_cons.2 (.inl ⟨by omega, hx⟩)))⟩
    · rintro ⟨s, hs, hms⟩
      rw [hm] at hms
      rcases hms with ⟨a, ha, hs2⟩ | hms
      · have := h1 a ha; unfold inE at hs hs2; omega
      · rcases mem_cons.1 hms with hs2 | ⟨b, hb, hs2⟩
        · unfold inE at hs hs2; omega
        · have := (nr_cons.1 hB).2.2 b hb; unfold inE at hs hs2; omega

theorem has_iff {L : List Ext} (h : Nr L) (e : Ext) (he : 1 ≤ e.2) : hasB L e = true ↔ ∀ s, inE e s → mem L s := by
  obtain ⟨h1, h2⟩ := aft_split h e.1
  unfold hasB
  have hsp : L = L.take (aft L e.1) ++ L.drop (aft L e.1) := (List.take_append_drop _ _).symm
  generalize aft L e.1 = i at *
  have hg : L[i]? = (L.drop i)[0]? := by simp
  rw [hg]
  rw [hsp] at h
  have hm : ∀ s, mem L s ↔ mem (L.take i) s ∨ mem (L.drop i) s := fun s => by rw [← mem_append, ← hsp]
  generalize L.take i = A at *
  generalize L.drop i = B at *
  obtain ⟨hA, hB, hAB⟩ := nr_append.1 h
  cases B with
  | nil =>
    simp
    refine ⟨e.1, ⟨Nat.le_refl _, by omega⟩, fun hms => ?_⟩
    rw [hm] at hms
    rcases hms with ⟨a, ha, hs2⟩ | hms
    · have := h1 a ha; unfold inE at hs2; omega
    · exact absurd hms mem_nil
  | cons x B =>
    simp
    have hx := h2 x (by simp)
    constructor
    · rintro ⟨c1, c2⟩ s hs
      exact (hm s).2 (.inr (mem_cons.2 (.inl ⟨by unfold inE at hs; omega, by unfold inE at hs; omega⟩)))
    · intro hall
      have in_x : ∀ s, inE e s → s ≤ x.1 + x.2 → inE x s := by
        intro s hs hle
        rcases (hm s).1 (hall s hs) with ⟨a, ha, hs2⟩ | hms
        · have := h1 a ha; unfold inE at hs hs2; omega
        · rcases mem_cons.1 hms with hs2 | ⟨b, hb, hs2⟩
          · exact hs2
          · have := (nr_cons.1 hB).2.2 b hb; unfold inE at hs hs2; omega
      have c1 := in_x e.1 ⟨Nat.le_refl _, by omega⟩ (by omega)
      refine ⟨c1.1, ?_⟩
      by_cases c : e.1 + e.2 ≤ x.1 + x.2
      · exact c
      · have := in_x (x.1 + x.2) ⟨by omega, by omega⟩ (Nat.le_refl _)
        unfold inE at this; omega
end Go.Av

/-! part P16k -/
namespace Go.Av

theorem join_law {A B : List Ext} {E : Ext} (hAB : Nr (A ++ B)) (hE : 1 ≤ E.2) (hA : ∀ a ∈ A, a.1 + a.2 ≤ E.1) (hB : ∀ b ∈ B, E.1 + E.2 < b.1) :
    Nr (joinM (A ++ B) A.length E) ∧ (∀ s, mem (joinM (A ++ B) A.length E) s ↔ mem A s ∨ inE E s ∨ mem B s) ∧ (joinM (A ++ B) A.length E).length ≤ (A ++ B).length + 1 := by
  obtain ⟨nA, nB, hg⟩ := nr_append.1 hAB
  rcases List.eq_nil_or_concat A with rfl | ⟨A', y, rfl⟩
  · simp only [List.nil_append, List.length_nil, joinM]
    refine ⟨nr_cons.2 ⟨hE, nB, hB⟩, fun s => ?_, by simp⟩
    rw [mem_cons]; simp
  · have el : (A'.concat y).length = A'.length + 1 := by simp
    rw [el]
    simp only [List.concat_eq_append] at *
    have e1 : (A' ++ [y] ++ B).getD A'.length (0, 0) = y := by simp
    have e2 : (A' ++ [y] ++ B).take A'.length = A' := by simp
    have e3 : (A' ++ [y] ++ B).drop (A'.length + 1) = B := by
      rw [List.drop_append, List.drop_of_length_le (by simp)]; simp
    have e4 : (A' ++ [y] ++ B).take (A'.length + 1) = A' ++ [y] := by
      rw [List.take_append_of_le_length (by simp), List.take_of_length_le (by simp)]
    simp only [joinM, e1, e2, e3, e4]
    obtain ⟨nA', ny, hgy⟩ := nr_append.1 nA
    have hy := hA y (by simp)
    have py := nA.pos y (by simp)
    split
    · rename_i c
      refine ⟨nr_append.2 ⟨nA', nr_cons.2 ⟨by simp only; omega, nB, fun b hb => by have := hB b hb; simp only; omega⟩, ?_⟩, fun s => ?_, by simp⟩
      · intro a ha b hb
        rcases List.mem_cons.1 hb with rfl | hb
        · exact hgy a ha y (by simp)
        · have := hgy a ha y (by simp); have := hB b hb; omega
      · rw [mem_append, mem_cons, mem_append, mem_cons]
        have : inE (y.1, y.2 + E.2) s ↔ inE y s ∨ inE E s := by unfold inE; simp only; omega
        rw [this]; simp only [mem_nil, or_false]
        constructor
        · rintro (h | (h | h) | h)
          · exact .inl (.inl h)
          · exact .inl (.inr h)
          · exact .inr (.inl h)
          · exact .inr (.inr h)
        · rintro ((h | h) | h | h)
          · exact .inl h
          · exact .inr (.inl (.inl h))
          · exact .inr (.inl (.inr h))
          · exact .inr (.inr h)
    · rename_i c
      refine ⟨nr_append.2 ⟨nA, nr_cons.2 ⟨hE, nB, hB⟩, ?_⟩, fun s => ?_, by simp; omega⟩
      · intro a ha b hb
        have ha2 : a.1 + a.2 < E.1 := by
          rcases List.mem_append.1 ha with h | h
          · have := hgy a h y (by simp); omega
          · simp at h; subst h; omega
        rcases List.mem_cons.1 hb with rfl | hb
        · exact ha2
        · have := hB b hb; omega
      · rw [mem_append, mem_cons]

theorem join_top {A B : List Ext} {E : Ext} {N : Nat} (h1 : ∀ a ∈ A ++ B, a.1 + a.2 ≤ N) (hE : E.1 + E.2 ≤ N) (hA : ∀ a ∈ A, a.1 + a.2 ≤ E.1) : ∀ x ∈ joinM (A ++ B) A.length E, x.1 + x.2 ≤ N := by
  intro x hx
  rcases List.eq_nil_or_concat A with rfl | ⟨A', y, rfl⟩
  · simp only [List.nil_append, List.length_nil, joinM] at hx h1
    rcases List.mem_cons.1 hx with rfl | hx
    · exact hE
    · exact h1 x hx
  · have el : (A'.concat y).length = A'.length + 1 := by simp
    rw [el] at hx
    have e1 : (A'.concat y ++ B).getD A'.length (0, 0) = y := by simp
    have hy := hA y (by simp)
    simp only [joinM, e1] at hx
    split at hx
    · rename_i c
      rcases List.mem_append.1 hx with h | h
      · exact h1 x (List.mem_of_mem_take h)
      · rcases List.mem_cons.1 h with rfl | h
        · simp only; omega
        · exact h1 x (List.mem_of_mem_drop h)
    · rcases List.mem_append.1 hx with h | h
      · exact h1 x (List.mem_of_mem_take h)
      · rcases List.mem_cons.1 h with rfl | h
        · exact hE
        · exact h1 x (List.mem_of_mem_drop h)

theorem put_law {L : List Ext} (h : Nr L) {e : Ext} (he : 1 ≤ e.2) (hm : mtB L e = false) {N : Nat} (hN : ∀ x ∈ L, x.1 + x.2 ≤ N) (heN : e.1 + e.2 ≤ N) :
    Nr (putL L e) ∧ (∀ s, mem (putL L e) s ↔ mem L s ∨ inE e s) ∧ (putL L e).length ≤ L.length + 1 ∧ ∀ x ∈ putL L e, x.1 + x.2 ≤ N := by
  have hm' : ∀ s, inE e s → ¬ mem L s := fun s hs hms => by
    have := (mt_iff h e he).2 ⟨s, hs, hms⟩; rw [hm] at this; cases this
  obtain ⟨h1, h2⟩ := aft_split h e.1
  have hsp : L = L.take (aft L e.1) ++ L.drop (aft L e.1) := (List.take_append_drop _ _).symm
  have hle := aft_le L e.1
  unfold putL putM putE joinR
  generalize aft L e.1 = i at *
  have hlA : (L.take i).length = i := by simp; omega
  have hg : L[i]? = (L.drop i)[0]? := by simp
  have hgD : L.getD i (0, 0) = (L.drop i).getD 0 (0, 0) := by simp
  have hd : L.drop (i + 1) = (L.drop i).drop 1 := by simp
  rw [hg, hgD, hd]
  have hmL : ∀ s, mem L s ↔ mem (L.take i) s ∨ mem (L.drop i) s := fun s => by rw [← mem_append, ← hsp]
  have hll : L.length = (L.take i).length + (L.drop i).length := by rw [← List.length_append, ← hsp]
  have hNA : ∀ x ∈ L.take i, x.1 + x.2 ≤ N := fun x hx => hN x (List.mem_of_mem_take hx)
  have hNB : ∀ x ∈ L.drop i, x.1 + x.2 ≤ N := fun x hx => hN x (List.mem_of_mem_drop hx)
  have hB1 : ∀ b ∈ L.drop i, e.1 + e.2 ≤ b.1 := by
    intro b hb
    have e1 := h2 b hb
    rcases Nat.lt_or_ge b.1 (e.1 + e.2) with c | c
    · exfalso
      have pb := h.pos b (List.mem_of_mem_drop hb)
      by_cases c2 : e.1 ≤ b.1
      · exact hm' b.1 ⟨c2, c⟩ ⟨b, List.mem_of_mem_drop hb, Nat.le_refl _, by omega⟩
      · exact hm' e.1 ⟨Nat.le_refl _, by omega⟩ ⟨b, List.mem_of_mem_drop hb, by omega, e1⟩
    · exact c
  have hh : Nr (L.take i ++ L.drop i) := by rw [← hsp]; exact h
  generalize hAd : L.take i = A at *
  generalize L.drop i = B at *
  cases B with
  | nil =>
    simp only [List.getElem?_nil, if_false, Bool.false_eq_true]
    have hL : L = A ++ [] := hsp
    rw [hL]
    have hj := join_law (E := e) hh he h1 (by simp)
    rw [hlA] at hj
    refine ⟨hj.1, fun s => ?_, by simpa using hj.2.2, ?_⟩
    · rw [hj.2.1, mem_append]; simp
    · have := join_top (E := e) (A := A) (B := []) (N := N) (by simpa using hNA) heN h1
      rw [hlA] at this; exact this
  | cons x B =>
    have hx := hB1 x (by simp)
    obtain ⟨nA, nB, gAB⟩ := nr_append.1 hh
    obtain ⟨px, nB', gx⟩ := nr_cons.1 nB
    by_cases c : e.1 + e.2 = x.1
    · simp [c]
      have hh' : Nr (A ++ B) := nr_append.2 ⟨nA, nB', fun a ha b hb => gAB a ha b (by simp [hb])⟩
      have hj := join_law (E := (e.1, e.2 + x.2)) hh' (by simp only; omega) h1 (fun b hb => by have := gx b hb; simp only; omega)
      rw [hlA] at hj
      have hNx := hNB x (by simp)
      refine ⟨hj.1, fun s => ?_, ?_, ?_⟩
      · rw [hj.2.1, hmL, mem_cons]
        have : inE (e.1, e.2 + x.2) s ↔ inE e s ∨ inE x s := by unfold inE; simp only; omega
        rw [this]
        constructor
        · rintro (h | (h | h) | h)
          · exact .inl (.inl h)
          · exact .inr h
          · exact .inl (.inr (.inl h))
          · exact .inl (.inr (.inr h))
        · rintro ((h | h | h) | h)
          · exact .inl h
          · exact .inr (.inl (.inr h))
          · exact .inr (.inr h)
          · exact .inr (.inl (.inl h))
      · have := hj.2.2; simp at this hll ⊢; omega
      · have := join_top (E := (e.1, e.2 + x.2)) (A := A) (B := B) (N := N) (fun a ha => by rcases List.mem_append.1 ha with h | h; exact hNA a h; exact hNB a (by simp [h])) (by simp only; omega) h1
        rw [hlA] at this
        intro y z hy; exact this (y, z) hy
    · simp [c]
      have hj := join_law (E := e) hh he h1 (fun b hb => by rcases List.mem_cons.1 hb with rfl | h; omega; have := gx b h; omega)
      rw [hlA, ← hsp] at hj
      refine ⟨hj.1, fun s => ?_, ?_, ?_⟩
      · rw [hj.2.1, hmL]
        constructor
        · rintro (h | h | h)
          · exact .inl (.inl h)
          · exact .inr h
          · exact .inl (.inr h)
        · rintro ((h | h) | h)
          · exact .inl h
          · exact .inr (.inr h)
          · exact .inr (.inl h)
      · exact hj.2.2
      · have := join_top (E := e) (A := A) (B := x :: B) (N := N) (fun a ha => by rcases List.mem_append.1 ha with h | h; exact hNA a h; exact hNB a h) heN h1
        rw [hlA, ← hsp] at this
        intro y z hy; exact this (y, z) hy

theorem cut_law {L : List Ext} (h : Nr L) {e : Ext} (he : 1 ≤ e.2) (hh : hasB L e = true) {N : Nat} (hN : ∀ x ∈ L, x.1 + x.2 ≤ N) :
    Nr (cutL L e) ∧ (∀ s, mem (cutL L e) s ↔ mem L s ∧ ¬ inE e s) ∧ (cutL L e).length ≤ L.length + 1 ∧ ∀ x ∈ cutL L e, x.1 + x.2 ≤ N := by
  obtain ⟨h1, h2⟩ := aft_split h e.1
  have hsp : L = L.take (aft L e.1) ++ L.drop (aft L e.1) := (List.take_append_drop _ _).symm
  unfold hasB at hh
  unfold cutL
  generalize aft L e.1 = i at *
  have hg : L[i]? = (L.drop i)[0]? := by simp
  have hgD : L.getD i (0, 0) = (L.drop i).getD 0 (0, 0) := by simp
  have hd : L.drop (i + 1) = (L.drop i).drop 1 := by simp
  rw [hg] at hh
  rw [hgD, hd]
  have hmL : ∀ s, mem L s ↔ mem (L.take i) s ∨ mem (L.drop i) s := fun s => by rw [← mem_append, ← hsp]
  have hll : L.length = (L.take i).length + (L.drop i).length := by rw [← List.length_append, ← hsp]
  have hNA : ∀ x ∈ L.take i, x.1 + x.2 ≤ N := fun x hx => hN x (List.mem_of_mem_take hx)
  have hNB : ∀ x ∈ L.drop i, x.1 + x.2 ≤ N := fun x hx => hN x (List.mem_of_mem_drop hx)
  have hn : Nr (L.take i ++ L.drop i) := by rw [← hsp]; exact h
  generalize L.take i = A at *
  generalize L.drop i = B at *
  cases B with
  | nil => simp at hh
  | cons x B =>
    simp at hh
    obtain ⟨nA, nB, gAB⟩ := nr_append.1 hn
    obtain ⟨px, nB', gx⟩ := nr_cons.1 nB
    have hxt := h2 x (by simp)
    simp only [List.getD_cons_zero, List.drop_succ_cons, List.drop_zero]
    have nc2 : Nr (cutB x e ++ B) ∧ (∀ s, mem (cutB x e ++ B) s ↔ (inE x s ∧ e.1 + e.2 ≤ s) ∨ mem B s) ∧ (cutB x e).length ≤ 1 ∧ (∀ y ∈ cutB x e, y.1 = e.1 + e.2 ∧ y.1 + y.2 = x.1 + x.2) := by
      unfold cutB; split
      · refine ⟨nr_cons.2 ⟨by simp only; omega, nB', fun b hb => by have := gx b hb; simp only; omega⟩, fun s => ?_, by simp, by simp; omega⟩
        show mem (_ :: B) s ↔ _
        rw [mem_cons]
        have : inE (e.1 + e.2, x.1 + x.2 - e.1 - e.2) s ↔ inE x s ∧ e.1 + e.2 ≤ s := by unfold inE; simp only; omega
        rw [this]
      · refine ⟨nB', fun s => ?_, by simp, by simp⟩
        show mem B s ↔ _
        constructor
        · exact .inr
        · rintro (⟨h, h'⟩ | h)
          · unfold inE at h; omega
          · exact h
    obtain ⟨n2, m2, l2, t2⟩ := nc2
    have nc1 : Nr (cutA x e ++ (cutB x e ++ B)) ∧ (∀ s, mem (cutA x e ++ (cutB x e ++ B)) s ↔ (inE x s ∧ ¬ inE e s) ∨ mem B s) ∧ (cutA x e).length ≤ 1 ∧ (∀ y ∈ cutA x e, y.1 = x.1 ∧ y.1 + y.2 = e.1) := by
      unfold cutA; split
      · refine ⟨nr_cons.2 ⟨by simp only; omega, n2, fun b hb => ?_⟩, fun s => ?_, by simp, by simp; omega⟩
        · have hb : b ∈ cutB x e ++ B := hb
          rcases List.mem_append.1 hb with hb | hb
          · have := (t2 b hb).1; simp only; omega
          · have := gx b hb; simp only; omega
        · show mem (_ :: (cutB x e ++ B)) s ↔ _
          rw [mem_cons, m2]
          have : inE (x.1, e.1 - x.1) s ↔ inE x s ∧ s < e.1 := by unfold inE; simp only; omega
          rw [this]
          constructor
          · rintro (⟨a, b⟩ | ⟨a, b⟩ | h)
            · exact .inl ⟨a, by unfold inE; omega⟩
            · exact .inl ⟨a, by unfold inE; omega⟩
            · exact .inr h
          · rintro (⟨a, b⟩ | h)
            · unfold inE at b
              by_cases c : s < e.1
              · exact .inl ⟨a, c⟩
              · exact .inr (.inl ⟨a, by omega⟩)
            · exact .inr (.inr h)
      · refine ⟨n2, fun s => ?_, by simp, by simp⟩
        show mem (cutB x e ++ B) s ↔ _
        rw [m2]
        constructor
        · rintro (⟨a, b⟩ | h)
          · exact .inl ⟨a, by unfold inE; omega⟩
          · exact .inr h
        · rintro (⟨a, b⟩ | h)
          · exact .inl ⟨a, by unfold inE at a b; omega⟩
          · exact .inr h
    obtain ⟨n1, m1, l1, t1⟩ := nc1
    refine ⟨nr_append.2 ⟨nA, n1, ?_⟩, fun s => ?_, by simp at hll ⊢; omega, ?_⟩
    · intro a ha b hb
      have g := gAB a ha x (by simp)
      rcases List.mem_append.1 hb with hb | hb
      · have := (t1 b hb).1; omega
      · rcases List.mem_append.1 hb with hb | hb
        · have := (t2 b hb).1; omega
        · exact gAB a ha b (by simp [hb])
    · rw [mem_append, m1, hmL, mem_cons]
      constructor
      · rintro (⟨a, ha, hs⟩ | ⟨a, b⟩ | ⟨b, hb, hs⟩)
        · exact ⟨.inl ⟨a, ha, hs⟩, by have := h1 a ha; unfold inE at hs ⊢; omega⟩
        · exact ⟨.inr (.inl a), b⟩
        · exact ⟨.inr (.inr ⟨b, hb, hs⟩), by have := gx b hb; unfold inE at hs ⊢; omega⟩
      · rintro ⟨h | h | h, k⟩
        · exact .inl h
        · exact .inr (.inl ⟨h, k⟩)
        · exact .inr (.inr h)
    · intro y hy
      have hNx := hNB x (by simp)
      rcases List.mem_append.1 hy with hy | hy
      · exact hNA y hy
      · rcases List.mem_append.1 hy with hy | hy
        · have := (t1 y hy).2; omega
        · rcases List.mem_append.1 hy with hy | hy
          · have := (t2 y hy).2; omega
          · exact hNB y (by simp [hy])
end Go.Av

/-! part P16l -/
namespace Go.Av
open Go.Proofs

abbrev extI (e : Int × Int) : PC := .agg false [.int e.1, .int e.2]
def okE (n : Nat) (e : Int × Int) : Bool := decide (0 ≤ e.1) && decide (1 ≤ e.2) && decide (e.1 < n) && decide (e.2 ≤ n - e.1)
def toE (e : Int × Int) : Ext := (e.1.toNat, e.2.toNat)
/-- are they right, and apart? -/
def rightE (n : Nat) (S : List Ext) : List (Int × Int) → Bool
  | [] => true
  | e :: es => okE n e && (!mtB S (toE e) && rightE n (putL S (toE e)) es)

set_option maxHeartbeats 4000000 in
set_option maxRecDepth 100000 in
theorem right35 (n : Nat) (hn : n ≤ 65536) (a b c : PC) (es : List (Int × Int)) (hl : es.length ≤ 900) :
    PureC Try.prog 35 [.ref (.agg false [.int n, a, b, c]), .sl (es.map extI)] (.bool (rightE n [] es)) := by
  refine pure_of_aw (ys := [_]) [] [(5, [(1, .r 1), (5, .r 1), (10, .r 1), (19, .r 1), (25, .r 1), (30, .r 2), (31, .r 1), (32, .w [1, 2])])] [(1, 2), (2, 0)] mixed Try.func35 rfl (by kernel_rfl) (by kernel_rfl) (by simp [Try.ntmps35]) rfl ?_
  simp
  refine aw_loop (fun x : Nat × List Ext => x.1 ≤ es.length ∧ x.2.length ≤ x.1 ∧ Nr x.2 ∧ (∀ e ∈ x.2, e.1 + e.2 ≤ n) ∧ rightE n [] es = rightE n x.2 (es.drop x.1))
    (fun x => [(0, .p (.ref (.agg false [.int n, a, b, c]))), (5, .obj 0 0), (8, .p (.sl (es.map extI))), (9, .p (.int es.length)), (10, .p (.int x.1))])
    (fun x => ⟨[(0, ⟨49, 1, [.view 1 0 x.2.length 2 none]⟩), (1, rowO x.2)], [], 2⟩) (fun x => es.length - x.1) (0, []) ⟨by simp, by simp, nr_nil, by simp, by simp⟩ _
    (le_voidO 0 0 29 2 ⟨49, 1, [.p .nil]⟩ (by simp) (by simp)) (leN_id (by simp [Tb.setOb, Tb.addOb, del])) ?_
  rintro ⟨k, S⟩ ⟨h1, h2, h3, h4, h5⟩
  simp only at h1 h2 h3 h4 h5
  by_cases c0 : k < es.length
  · obtain ⟨e, hxe⟩ : ∃ e, es[k] = e := ⟨_, rfl⟩
    obtain ⟨u, v⟩ := e
    have h6 := h5
    rw [List.drop_eq_getElem_cons c0, hxe] at h6
    simp only [rightE] at h6
    by_cases c1 : u < 0
    · have : okE n (u, v) = false := by simp [okE]; omega
      rw [this] at h6
      simp [c0, hxe, c1, h6, Try.results35]
    by_cases c2 : v < 1
    · have : okE n (u, v) = false := by simp [okE]; omega
      rw [this] at h6
      simp [c0, hxe, c1, c2, h6, Try.results35]
    by_cases c3 : (n : Int) ≤ u
    · have : okE n (u, v) = false := by simp [okE]; omega
      rw [this] at h6
      simp [c0, hxe, c1, c2, c3, h6, Try.results35]
    have w1 : IntKind.i64.wrap ((n : Int) - u) = (n : Int) - u := wrap64_id (by omega) (by omega)
    by_cases c4 : (n : Int) - u < v
    · have : okE n (u, v) = false := by simp [okE]; omega
      rw [this] at h6
      simp [c0, hxe, c1, c2, c3, w1, c4, h6, Try.results35]
    have hok : okE n (u, v) = true := by simp [okE]; omega
    rw [hok] at h6
    obtain ⟨p, rfl⟩ : ∃ p : Nat, u = p := ⟨u.toNat, by omega⟩
    obtain ⟨q, rfl⟩ : ∃ q : Nat, v = q := ⟨v.toNat, by omega⟩
    have hte : toE ((p : Int), (q : Int)) = (p, q) := by simp [toE]
    rw [hte] at h6
    have hm := meets38 S (p, q) h3.up (by omega) (fun e he => by have := h4 e he; omega) (by simp only; omega)
    have c3' : ¬ n ≤ p := by omega
    simp [c0, hxe, c1, c2, c3, c3', w1, c4]
    refine bcall_of0 hm ⟨bor_set (by simp) rfl, by simp [borF, all2], trivial⟩ rfl ?_
    cases hmt : mtB S (p, q) with
    | true =>
      rw [hmt] at h6
      simp [h6, Try.results35]
    | false =>
      rw [hmt] at h6
      obtain ⟨g1, g2, g3, g4⟩ := put_law h3 (e := (p, q)) (by simp only; omega) hmt h4 (by simp only; omega)
      simp
      refine gcall_of0 (put33 3 0 1 (by omega) (by omega) (by omega) 49 1 0 [.view 1 0 S.length 2 none] S (p, q) (by simp) (by simp) h3.up (by omega) (fun e he => by have := h4 e he; omega) (by simp only; omega)) (by simp) (by simp [sub1]) trivial rfl ?_
      generalize putL S (p, q) = S' at *
      simp
      refine ⟨k + 1, S', ⟨by omega, by omega, g1, fun u v he => g4 (u, v) he, by rw [h6]; simp⟩, by omega, leN_of [(1, 3)] ?_⟩
      simp [wrap64_id (n := (k : Int) + 1) (by omega) (by omega)]
  · have e : k = es.length := by omega
    subst e
    simp [rightE] at h5
    simp [h5, Try.results35]

abbrev mapPC (n : Nat) (F R W : List Ext) : PC := .agg false [.int n, setP F, setP R, setP W]
theorem has39 (n : Nat) (F R W : List Ext) (e : Ext) (hF : Nrm F) (he : e.1 + e.2 ≤ 65536) : PureC Try.prog 39 [extP e, .ref (.ref (mapPC n F R W))] (.bool (!hasB F e)) := by
  refine pure_of_aw (ys := [_]) [] [] [] mixed Try.func39 rfl (by kernel_rfl) (by kernel_rfl) (by simp [Try.ntmps39]) rfl ?_
  simp
  refine call_of (has40 F e hF.up (by have := hF.len; omega) (fun e he => by have := hF.top e he; omega) (by omega)) ?_
  simp [Try.results39]
theorem meets37 (n : Nat) (F R W : List Ext) (e : Ext) (hF : Nrm F) (hW : Nrm W) (he : e.1 + e.2 ≤ 65536) : PureC Try.prog 37 [extP e, .ref (.ref (mapPC n F R W))] (.bool (mtB F e || mtB W e)) := by
  refine pure_of_aw (ys := [_]) [] [] [] mixed Try.func37 rfl (by kernel_rfl) (by kernel_rfl) (by simp [Try.ntmps37]) rfl ?_
  simp
  refine call_of (meets38 F e hF.up (by have := hF.len; omega) (fun e he => by have := hF.top e he; omega) (by omega)) ?_
  cases mtB F e with
  | true => simp [Try.results37]
  | false =>
    simp
    refine call_of (meets38 W e hW.up (by have := hW.len; omega) (fun e he => by have := hW.top e he; omega) (by omega)) ?_
    simp [Try.results37]

theorem bor_map {bx : List (Nat × Ob)} {k m f r w n : Nat} {F R W : List Ext} (hm : lk m bx = some (mapO n f r w F R W)) (hf : lk f bx = some (rowO F)) (hr : lk r bx = some (rowO R)) (hw : lk w bx = some (rowO W)) :
    borF bx (k + 2) (.obj m 0) (.ref (mapPC n F R W)) := by
  refine ⟨_, hm, by simp [mapX], ?_⟩
  exact ⟨⟨_, rfl, .inl rfl⟩, bor_set hf rfl, bor_set hr rfl, bor_set hw rfl, trivial⟩

/-- extents within n sectors -/
structure Ok (n : Nat) (L : List Ext) : Prop where
  nr : Nr L
  top : ∀ e ∈ L, e.1 + e.2 ≤ n
theorem Ok.len {n : Nat} {L : List Ext} (h : Ok n L) : 2 * L.length ≤ n + 1 := by
  have key : ∀ (L : List Ext) (t : Nat), Nr L → (∀ e ∈ L, t ≤ e.1 ∧ e.1 + e.2 ≤ n) → t + 2 * L.length ≤ n + 1 ∨ L = [] := by
    intro L
    induction L with
    | nil => intro t _ _; exact .inr rfl
    | cons e L ih =>
      intro t hn ht
      obtain ⟨h1, h2, h3⟩ := nr_cons.1 hn
      have h4 := ht e (by simp)
      rcases ih (e.1 + e.2 + 1) h2 (fun x hx => ⟨by have := h3 x hx; omega, (ht x (by simp [hx])).2⟩) with h | rfl
      · left; simp; omega
      · left; simp; omega
  rcases key L 0 h.nr (fun e he => ⟨Nat.zero_le _, h.top e he⟩) with h | rfl
  · omega
  · simp
theorem Ok.nrm {n : Nat} {L : List Ext} (h : Ok n L) (hn : n ≤ 1000) : Nrm L := ⟨h.nr.pos, h.nr.gap, fun e he => by have := h.top e he; omega, by have := h.len; omega⟩
theorem Ok.cut {n : Nat} {L : List Ext} (h : Ok n L) {e : Ext} (he : 1 ≤ e.2) (hh : hasB L e = true) : Ok n (cutL L e) ∧ ∀ s, mem (cutL L e) s ↔ mem L s ∧ ¬ inE e s := by
  obtain ⟨h1, h2, _, h4⟩ := cut_law h.nr he hh h.top
  exact ⟨⟨h1, h4⟩, h2⟩
theorem Ok.put {n : Nat} {L : List Ext} (h : Ok n L) {e : Ext} (he : 1 ≤ e.2) (hm : mtB L e = false) (hn : e.1 + e.2 ≤ n) : Ok n (putL L e) ∧ ∀ s, mem (putL L e) s ↔ mem L s ∨ inE e s := by
  obtain ⟨h1, h2, _, h4⟩ := put_law h.nr he hm h.top hn
  exact ⟨⟨h1, h4⟩, h2⟩
theorem ok_nil {n : Nat} : Ok n [] := ⟨nr_nil, by simp⟩

/-- of which no two have a sector in common -/
def Dj (es : List Ext) : Prop := es.Pairwise fun a b => ∀ s, inE a s → ¬ inE b s
theorem right_law {n : Nat} : ∀ (es : List (Int × Int)) (S : List Ext), Ok n S → rightE n S es = true →
    es.map extI = (es.map toE).map extP ∧ (∀ e ∈ es.map toE, 1 ≤ e.2 ∧ e.1 + e.2 ≤ n ∧ ∀ s, inE e s → ¬ mem S s) ∧ Dj (es.map toE)
  | [], _, _, _ => ⟨rfl, by simp, .nil⟩
  | e :: es, S, hS, h => by
    simp only [rightE, Bool.and_eq_true, Bool.not_eq_true'] at h
    obtain ⟨h1, h2, h3⟩ := h
    obtain ⟨u, v⟩ := e
    simp [okE] at h1
    have e1 : 1 ≤ (toE (u, v)).2 := by simp only [toE]; omega
    have e2 : (toE (u, v)).1 + (toE (u, v)).2 ≤ n := by simp only [toE]; omega
    obtain ⟨h4, h5⟩ := hS.put e1 h2 e2
    obtain ⟨i1, i2, i3⟩ := right_law es _ h4 h3
    refine ⟨?_, ?_, ?_⟩
    · rw [List.map_cons, List.map_cons, List.map_cons, i1]
      have : extI (u, v) = extP (toE (u, v)) := by simp only [extI, extP, toE]; rw [Int.toNat_of_nonneg (by omega), Int.toNat_of_nonneg (by omega)]
      rw [this]
    · intro x hx
      rcases List.mem_cons.1 hx with rfl | hx
      · refine ⟨e1, e2, fun s hs hm => ?_⟩
        have := (mt_iff hS.nr _ e1).2 ⟨s, hs, hm⟩
        rw [h2] at this; cases this
      · obtain ⟨j1, j2, j3⟩ := i2 x hx
        exact ⟨j1, j2, fun s hs hm => j3 s hs ((h5 s).2 (.inl hm))⟩
    · refine List.pairwise_cons.2 ⟨fun x hx s hs hs2 => ?_, i3⟩
      exact (i2 x hx).2.2 s hs2 ((h5 s).2 (.inr hs))
end Go.Av

/-! part P16m -/
namespace Go.Av
open Go.Proofs

theorem dj_take {es : List Ext} (h : Dj es) {k : Nat} (hk : k < es.length) {s : Nat} (hs : inE es[k] s) : ∀ e ∈ es.take k, ¬ inE e s := by
  intro e he hes
  obtain ⟨p, hp, rfl⟩ := List.getElem_of_mem he
  simp at hp hes
  exact List.pairwise_iff_getElem.1 h p k (by omega) hk (by omega) s hes hs
theorem cuts_law {n : Nat} {F : List Ext} (hF : Ok n F) {es : List Ext} (h1 : ∀ e ∈ es, 1 ≤ e.2 ∧ ∀ s, inE e s → mem F s) (hd : Dj es) : ∀ k, k ≤ es.length →
    Ok n ((es.take k).foldl cutL F) ∧ (∀ s, mem ((es.take k).foldl cutL F) s ↔ mem F s ∧ ∀ e ∈ es.take k, ¬ inE e s) ∧ ∀ (hk : k < es.length), hasB ((es.take k).foldl cutL F) es[k] = true := by
  have has : ∀ k (hk : k < es.length), Ok n ((es.take k).foldl cutL F) → (∀ s, mem ((es.take k).foldl cutL F) s ↔ mem F s ∧ ∀ e ∈ es.take k, ¬ inE e s) → hasB ((es.take k).foldl cutL F) es[k] = true := by
    intro k hk hO hm
    have := h1 es[k] (by simp)
    exact (has_iff hO.nr _ this.1).2 fun s hs => (hm s).2 ⟨this.2 s hs, dj_take hd hk hs⟩
  intro k
  induction k with
  | zero => intro _; exact ⟨hF, by simp, fun hk => has 0 hk hF (by simp)⟩
  | succ k ih =>
    intro hk
    obtain ⟨i1, i2, i3⟩ := ih (by omega)
    have ck : k < es.length := by omega
    rw [List.take_succ_eq_append_getElem ck, List.foldl_append]
    simp only [List.foldl_cons, List.foldl_nil]
    obtain ⟨j1, j2⟩ := i1.cut (h1 es[k] (by simp)).1 (i3 ck)
    have hm : ∀ s, mem (cutL ((es.take k).foldl cutL F) es[k]) s ↔ mem F s ∧ ∀ e ∈ es.take k ++ [es[k]], ¬ inE e s := by
      intro s
      rw [j2, i2]
      simp only [List.mem_append, List.mem_singleton]
      constructor
      · rintro ⟨⟨a, b⟩, c⟩
        exact ⟨a, fun e he => by rcases he with he | rfl; exact b e he; exact c⟩
      · rintro ⟨a, b⟩
        exact ⟨⟨a, fun e he => b e (.inl he)⟩, b _ (.inr rfl)⟩
    refine ⟨j1, hm, fun hk' => ?_⟩
    have := has (k + 1) hk'
    rw [List.take_succ_eq_append_getElem ck, List.foldl_append] at this
    exact this j1 hm
theorem puts_law {n : Nat} {W : List Ext} (hW : Ok n W) {es : List Ext} (h1 : ∀ e ∈ es, 1 ≤ e.2 ∧ e.1 + e.2 ≤ n ∧ ∀ s, inE e s → ¬ mem W s) (hd : Dj es) : ∀ k, k ≤ es.length →
    Ok n ((es.take k).foldl putL W) ∧ (∀ s, mem ((es.take k).foldl putL W) s ↔ mem W s ∨ ∃ e ∈ es.take k, inE e s) ∧ ∀ (hk : k < es.length), mtB ((es.take k).foldl putL W) es[k] = false := by
  have has : ∀ k (hk : k < es.length), Ok n ((es.take k).foldl putL W) → (∀ s, mem ((es.take k).foldl putL W) s ↔ mem W s ∨ ∃ e ∈ es.take k, inE e s) → mtB ((es.take k).foldl putL W) es[k] = false := by
    intro k hk hO hm
    have h2 := h1 es[k] (by simp)
    cases hb : mtB ((es.take k).foldl putL W) es[k] with
    | false => rfl
    | true =>
      obtain ⟨s, hs, hms⟩ := (mt_iff hO.nr _ h2.1).1 hb
      rcases (hm s).1 hms with h | ⟨e, he, h⟩
      · exact absurd h (h2.2.2 s hs)
      · exact absurd h (dj_take hd hk hs e he)
  intro k
  induction k with
  | zero => intro _; exact ⟨hW, by simp, fun hk => has 0 hk hW (by simp)⟩
  | succ k ih =>
    intro hk
    obtain ⟨i1, i2, i3⟩ := ih (by omega)
    have ck : k < es.length := by omega
    rw [List.take_succ_eq_append_getElem ck, List.foldl_append]
    simp only [List.foldl_cons, List.foldl_nil]
    have hk1 := h1 es[k] (by simp)
    obtain ⟨j1, j2⟩ := i1.put hk1.1 (i3 ck) hk1.2.1
    have hm : ∀ s, mem (putL ((es.take k).foldl putL W) es[k]) s ↔ mem W s ∨ ∃ e ∈ es.take k ++ [es[k]], inE e s := by
      intro s
      rw [j2, i2]
      simp only [List.mem_append, List.mem_singleton]
      constructor
      · rintro ((a | ⟨e, he, hs⟩) | c)
        · exact .inl a
        · exact .inr ⟨e, .inl he, hs⟩
        · exact .inr ⟨_, .inr rfl, c⟩
      · rintro (a | ⟨e, he | rfl, hs⟩)
        · exact .inl (.inl a)
        · exact .inl (.inr ⟨e, he, hs⟩)
        · exact .inr hs
    refine ⟨j1, hm, fun hk' => ?_⟩
    have := has (k + 1) hk'
    rw [List.take_succ_eq_append_getElem ck, List.foldl_append] at this
    exact this j1 hm

def holdB (n : Nat) (F : List Ext) (es : List (Int × Int)) : Bool := rightE n [] es && !(es.map toE).any fun e => !hasB F e
def giveB (n : Nat) (F W : List Ext) (es : List (Int × Int)) : Bool := rightE n [] es && !(es.map toE).any fun e => mtB F e || mtB W e

set_option maxHeartbeats 4000000 in
set_option maxRecDepth 100000 in
theorem hold18 (m f r w nx n : Nat) (h : Ids m f r w nx) (hn : n ≤ 1000) (F R W : List Ext) (hF : Ok n F) (hR : Ok n R) (hW : Ok n W) (es : List (Int × Int)) (hl : es.length ≤ 900) :
    GenC Try.prog 18 [.obj m 0, .p (.sl (es.map extI))] ⟨mapB m f r w n F R W, [], nx⟩ (.p (.bool (holdB n F es)))
      ⟨mapB m nx r w n (if holdB n F es = true then (es.map toE).foldl cutL F else F) R W, [], nx + 1⟩ := by
  have hRt := right35 n (by omega) (setP F) (setP R) (setP W) es hl
  have nF := hF.nrm hn
  have nR := hR.nrm hn
  have nW := hW.nrm hn
  obtain ⟨hm, hf, hr, hw, mf, mr, mw, fr, fw, rw_⟩ := h
  have fm_ := Ne.symm mf
  have rm_ := Ne.symm mr
  have wm_ := Ne.symm mw
  have rf_ := Ne.symm fr
  have wf_ := Ne.symm fw
  have wr_ := Ne.symm rw_
  have q1 : ¬ m = nx := by omega
  have p1 : ¬ nx = m := by omega
  have q2 : ¬ m = nx + 1 := by omega
  have p2 : ¬ nx + 1 = m := by omega
  have q3 : ¬ m = nx + 1 + 1 := by omega
  have p3 : ¬ nx + 1 + 1 = m := by omega
  have q4 : ¬ m = nx + 1 + 1 + 1 := by omega
  have p4 : ¬ nx + 1 + 1 + 1 = m := by omega
  have q5 : ¬ m = nx + 1 + 1 + 1 + 1 := by omega
  have p5 : ¬ nx + 1 + 1 + 1 + 1 = m := by omega
  have lm1 : m < nx + 1 := by omega
  have lm2 : m < nx + 1 + 1 := by omega
  have lm3 : m < nx + 1 + 1 + 1 := by omega
  have lm4 : m < nx + 1 + 1 + 1 + 1 := by omega
  have lm5 : m < nx + 1 + 1 + 1 + 1 + 1 := by omega
  have km : m < nx + 5 := by omega
  have q6 : ¬ f = nx := by omega
  have p6 : ¬ nx = f := by omega
  have q7 : ¬ f = nx + 1 := by omega
  have p7 : ¬ nx + 1 = f := by omega
  have q8 : ¬ f = nx + 1 + 1 := by omega
  have p8 : ¬ nx + 1 + 1 = f := by omega
  have q9 : ¬ f = nx + 1 + 1 + 1 := by omega
  have p9 : ¬ nx + 1 + 1 + 1 = f := by omega
  have q10 : ¬ f = nx + 1 + 1 + 1 + 1 := by omega
  have p10 : ¬ nx + 1 + 1 + 1 + 1 = f := by omega
  have lf1 : f < nx + 1 := by omega
  have lf2 : f < nx + 1 + 1 := by omega
  have lf3 : f < nx + 1 + 1 + 1 := by omega
  have lf4 : f < nx + 1 + 1 + 1 + 1 := by omega
  have lf5 : f < nx + 1 + 1 + 1 + 1 + 1 := by omega
  have kf : f < nx + 5 := by omega
  have q11 : ¬ r = nx := by omega
  have p11 : ¬ nx = r := by omega
  have q12 : ¬ r = nx + 1 := by omega
  have p12 : ¬ nx + 1 = r := by omega
  have q13 : ¬ r = nx + 1 + 1 := by omega
  have p13 : ¬ nx + 1 + 1 = r := by omega
  have q14 : ¬ r = nx + 1 + 1 + 1 := by omega
  have p14 : ¬ nx + 1 + 1 + 1 = r := by omega
  have q15 : ¬ r = nx + 1 + 1 + 1 + 1 := by omega
  have p15 : ¬ nx + 1 + 1 + 1 + 1 = r := by omega
  have lr1 : r < nx + 1 := by omega
  have lr2 : r < nx + 1 + 1 := by omega
  have lr3 : r < nx + 1 + 1 + 1 := by omega
  have lr4 : r < nx + 1 + 1 + 1 + 1 := by omega
  have lr5 : r < nx + 1 + 1 + 1 + 1 + 1 := by omega
  have kr : r < nx + 5 := by omega
  have q16 : ¬ w = nx := by omega
  have p16 : ¬ nx = w := by omega
  have q17 : ¬ w = nx + 1 := by omega
  have p17 : ¬ nx + 1 = w := by omega
  have q18 : ¬ w = nx + 1 + 1 := by omega
  have p18 : ¬ nx + 1 + 1 = w := by omega
  have q19 : ¬ w = nx + 1 + 1 + 1 := by omega
  have p19 : ¬ nx + 1 + 1 + 1 = w := by omega
  have q20 : ¬ w = nx + 1 + 1 + 1 + 1 := by omega
  have p20 : ¬ nx + 1 + 1 + 1 + 1 = w := by omega
  have lw1 : w < nx + 1 := by omega
  have lw2 : w < nx + 1 + 1 := by omega
  have lw3 : w < nx + 1 + 1 + 1 := by omega
  have lw4 : w < nx + 1 + 1 + 1 + 1 := by omega
  have lw5 : w < nx + 1 + 1 + 1 + 1 + 1 := by omega
  have kw : w < nx + 5 := by omega
  have hbm : ∀ bx k, lk m bx = some (mapO n f r w F R W) → lk f bx = some (rowO F) → lk r bx = some (rowO R) → lk w bx = some (rowO W) → borF bx (k + 2) (.obj m 0) (.ref (mapPC n F R W)) := fun bx k a b c d => bor_map a b c d
  refine gen_of_aw (rs := [_]) [2] [(6, [(0, .r 1), (3, .r 2), (4, .w [1, 2])])] [(1, nx), (2, nx + 1 + 1)] mixed Try.func18 rfl (by kernel_rfl) (by kernel_rfl) (by simp [Try.ntmps18]) rfl ?_
  simp [mapB, mapO, mapX, mf, fm_, mr, rm_, mw, wm_, fr, rf_, fw, wf_, rw_, wr_, q1, p1, q2, p2, q3, p3, q4, p4, q5, p5, hm, lm1, lm2, lm3, lm4, lm5, km, q6, p6, q7, p7, q8, p8, q9, p9, q10, p10, hf, lf1, lf2, lf3, lf4, lf5, kf, q11, p11, q12, p12, q13, p13, q14, p14, q15, p15, hr, lr1, lr2, lr3, lr4, lr5, kr, q16, p16, q17, p17, q18, p18, q19, p19, q20, p20, hw, lw1, lw2, lw3, lw4, lw5, kw]
  refine bcall_of0 hRt ⟨hbm _ _ (by simp [mf, fm_, mr, rm_, mw, wm_, fr, rf_, fw, wf_, rw_, wr_, q1, p1, q2, p2, q3, p3, q4, p4, q5, p5, hm, lm1, lm2, lm3, lm4, lm5, km, q6, p6, q7, p7, q8, p8, q9, p9, q10, p10, hf, lf1, lf2, lf3, lf4, lf5, kf, q11, p11, q12, p12, q13, p13, q14, p14, q15, p15, hr, lr1, lr2, lr3, lr4, lr5, kr, q16, p16, q17, p17, q18, p18, q19, p19, q20, p20, hw, lw1, lw2, lw3, lw4, lw5, kw]) (by simp [mf, fm_, mr, rm_, mw, wm_, fr, rf_, fw, wf_, rw_, wr_, q1, p1, q2, p2, q3, p3, q4, p4, q5, p5, hm, lm1, lm2, lm3, lm4, lm5, km, q6, p6, q7, p7, q8, p8, q9, p9, q10, p10, hf, lf1, lf2, lf3, lf4, lf5, kf, q11, p11, q12, p12, q13, p13, q14, p14, q15, p15, hr, lr1, lr2, lr3, lr4, lr5, kr, q16, p16, q17, p17, q18, p18, q19, p19, q20, p20, hw, lw1, lw2, lw3, lw4, lw5, kw]) (by simp [mf, fm_, mr, rm_, mw, wm_, fr, rf_, fw, wf_, rw_, wr_, q1, p1, q2, p2, q3, p3, q4, p4, q5, p5, hm, lm1, lm2, lm3, lm4, lm5, km, q6, p6, q7, p7, q8, p8, q9, p9, q10, p10, hf, lf1, lf2, lf3, lf4, lf5, kf, q11, p11, q12, p12, q13, p13, q14, p14, q15, p15, hr, lr1, lr2, lr3, lr4, lr5, kr, q16, p16, q17, p17, q18, p18, q19, p19, q20, p20, hw, lw1, lw2, lw3, lw4, lw5, kw]) (by simp [mf, fm_, mr, rm_, mw, wm_, fr, rf_, fw, wf_, rw_, wr_, q1, p1, q2, p2, q3, p3, q4, p4, q5, p5, hm, lm1, lm2, lm3, lm4, lm5, km, q6, p6, q7, p7, q8, p8, q9, p9, q10, p10, hf, lf1, lf2, lf3, lf4, lf5, kf, q11, p11, q12, p12, q13, p13, q14, p14, q15, p15, hr, lr1, lr2, lr3, lr4, lr5, kr, q16, p16, q17, p17, q18, p18, q19, p19, q20, p20, hw, lw1, lw2, lw3, lw4, lw5, kw]), by simp [borF], trivial⟩ rfl ?_
  cases hr : rightE n [] es with
  | false =>
    have hB : holdB n F es = false := by unfold holdB; rw [hr]; rfl
    simp [hB, Try.results18]
    exact ⟨[(nx, f)], by simp [mapX, mf, fm_, mr, rm_, mw, wm_, fr, rf_, fw, wf_, rw_, wr_, q1, p1, q2, p2, q3, p3, q4, p4, q5, p5, hm, lm1, lm2, lm3, lm4, lm5, km, q6, p6, q7, p7, q8, p8, q9, p9, q10, p10, hf, lf1, lf2, lf3, lf4, lf5, kf, q11, p11, q12, p12, q13, p13, q14, p14, q15, p15, hr, lr1, lr2, lr3, lr4, lr5, kr, q16, p16, q17, p17, q18, p18, q19, p19, q20, p20, hw, lw1, lw2, lw3, lw4, lw5, kw]⟩
  | true =>
    obtain ⟨g1, g2, g3⟩ := right_law es [] ok_nil hr
    generalize hes : es.map toE = es' at *
    have hlen : es.length = es'.length := by rw [← hes]; simp
    rw [g1]
    have hC := contains36 (g := 39) (caps := [.ref (.ref (mapPC n F R W))]) (fun e => !hasB F e) es' (by omega) (fun e he => has39 n F R W e nF (by have := (g2 e he).2.1; omega))
    simp [mf, fm_, mr, rm_, mw, wm_, fr, rf_, fw, wf_, rw_, wr_, q1, p1, q2, p2, q3, p3, q4, p4, q5, p5, hm, lm1, lm2, lm3, lm4, lm5, km, q6, p6, q7, p7, q8, p8, q9, p9, q10, p10, hf, lf1, lf2, lf3, lf4, lf5, kf, q11, p11, q12, p12, q13, p13, q14, p14, q15, p15, hr, lr1, lr2, lr3, lr4, lr5, kr, q16, p16, q17, p17, q18, p18, q19, p19, q20, p20, hw, lw1, lw2, lw3, lw4, lw5, kw]
    refine bcall_of0 hC ⟨by simp [borF], ⟨rfl, ⟨⟨24, 1, [.obj m 0]⟩, .obj m 0, by simp [mf, fm_, mr, rm_, mw, wm_, fr, rf_, fw, wf_, rw_, wr_, q1, p1, q2, p2, q3, p3, q4, p4, q5, p5, hm, lm1, lm2, lm3, lm4, lm5, km, q6, p6, q7, p7, q8, p8, q9, p9, q10, p10, hf, lf1, lf2, lf3, lf4, lf5, kf, q11, p11, q12, p12, q13, p13, q14, p14, q15, p15, hr, lr1, lr2, lr3, lr4, lr5, kr, q16, p16, q17, p17, q18, p18, q19, p19, q20, p20, hw, lw1, lw2, lw3, lw4, lw5, kw], rfl, rfl, hbm _ _ (by simp [mf, fm_, mr, rm_, mw, wm_, fr, rf_, fw, wf_, rw_, wr_, q1, p1, q2, p2, q3, p3, q4, p4, q5, p5, hm, lm1, lm2, lm3, lm4, lm5, km, q6, p6, q7, p7, q8, p8, q9, p9, q10, p10, hf, lf1, lf2, lf3, lf4, lf5, kf, q11, p11, q12, p12, q13, p13, q14, p14, q15, p15, hr, lr1, lr2, lr3, lr4, lr5, kr, q16, p16, q17, p17, q18, p18, q19, p19, q20, p20, hw, lw1, lw2, lw3, lw4, lw5, kw]) (by simp [mf, fm_, mr, rm_, mw, wm_, fr, rf_, fw, wf_, rw_, wr_, q1, p1, q2, p2, q3, p3, q4, p4, q5, p5, hm, lm1, lm2, lm3, lm4, lm5, km, q6, p6, q7, p7, q8, p8, q9, p9, q10, p10, hf, lf1, lf2, lf3, lf4, lf5, kf, q11, p11, q12, p12, q13, p13, q14, p14, q15, p15, hr, lr1, lr2, lr3, lr4, lr5, kr, q16, p16, q17, p17, q18, p18, q19, p19, q20, p20, hw, lw1, lw2, lw3, lw4, lw5, kw]) (by simp [mf, fm_, mr, rm_, mw, wm_, fr, rf_, fw, wf_, rw_, wr_, q1, p1, q2, p2, q3, p3, q4, p4, q5, p5, hm, lm1, lm2, lm3, lm4, lm5, km, q6, p6, q7, p7, q8, p8, q9, p9, q10, p10, hf, lf1, lf2, lf3, lf4, lf5, kf, q11, p11, q12, p12, q13, p13, q14, p14, q15, p15, hr, lr1, lr2, lr3, lr4, lr5, kr, q16, p16, q17, p17, q18, p18, q19, p19, q20, p20, hw, lw1, lw2, lw3, lw4, lw5, kw]) (by simp [mf, fm_, mr, rm_, mw, wm_, fr, rf_, fw, wf_, rw_, wr_, q1, p1, q2, p2, q3, p3, q4, p4, q5, p5, hm, lm1, lm2, lm3, lm4, lm5, km, q6, p6, q7, p7, q8, p8, q9, p9, q10, p10, hf, lf1, lf2, lf3, lf4, lf5, kf, q11, p11, q12, p12, q13, p13, q14, p14, q15, p15, hr, lr1, lr2, lr3, lr4, lr5, kr, q16, p16, q17, p17, q18, p18, q19, p19, q20, p20, hw, lw1, lw2, lw3, lw4, lw5, kw])⟩, trivial⟩, trivial⟩ rfl ?_
    cases ha : es'.any (fun e => !hasB F e) with
    | true =>
      have hB : holdB n F es = false := by unfold holdB; rw [hr, hes, ha]; rfl
      simp [hB, Try.results18]
      exact ⟨[(nx, f)], by simp [mapX, mf, fm_, mr, rm_, mw, wm_, fr, rf_, fw, wf_, rw_, wr_, q1, p1, q2, p2, q3, p3, q4, p4, q5, p5, hm, lm1, lm2, lm3, lm4, lm5, km, q6, p6, q7, p7, q8, p8, q9, p9, q10, p10, hf, lf1, lf2, lf3, lf4, lf5, kf, q11, p11, q12, p12, q13, p13, q14, p14, q15, p15, hr, lr1, lr2, lr3, lr4, lr5, kr, q16, p16, q17, p17, q18, p18, q19, p19, q20, p20, hw, lw1, lw2, lw3, lw4, lw5, kw]⟩
    | false =>
      have hB : holdB n F es = true := by unfold holdB; rw [hr, hes, ha]; rfl
      rw [List.any_eq_false] at ha
      have hlaw := cuts_law hF (es := es') (fun e he => ⟨(g2 e he).1, (has_iff hF.nr e (g2 e he).1).1 (by have := ha e he; simpa using this)⟩) g3
      rw [hB]
      simp [mf, fm_, mr, rm_, mw, wm_, fr, rf_, fw, wf_, rw_, wr_, q1, p1, q2, p2, q3, p3, q4, p4, q5, p5, hm, lm1, lm2, lm3, lm4, lm5, km, q6, p6, q7, p7, q8, p8, q9, p9, q10, p10, hf, lf1, lf2, lf3, lf4, lf5, kf, q11, p11, q12, p12, q13, p13, q14, p14, q15, p15, hr, lr1, lr2, lr3, lr4, lr5, kr, q16, p16, q17, p17, q18, p18, q19, p19, q20, p20, hw, lw1, lw2, lw3, lw4, lw5, kw]
      obtain ⟨Fk, hFk⟩ : ∃ Fk : Nat → List Ext, Fk = fun k => (es'.take k).foldl cutL F := ⟨_, rfl⟩
      have h0 : Fk 0 = F := by rw [hFk]; simp
      have hL : Fk es'.length = es'.foldl cutL F := by rw [hFk]; simp
      have hS : ∀ k (hk : k < es'.length), Fk (k + 1) = cutL (Fk k) es'[k] := by intro k hk; rw [hFk]; simp only; rw [List.take_succ_eq_append_getElem hk, List.foldl_append]; rfl
      have hO : ∀ k, k ≤ es'.length → Ok n (Fk k) := fun k hk => by rw [hFk]; exact (hlaw k hk).1
      have hH : ∀ k (hk : k < es'.length), hasB (Fk k) es'[k] = true := fun k hk => by rw [hFk]; exact (hlaw k (by omega)).2.2 hk
      rw [← hL]
      clear hlaw hFk
      refine aw_loop (fun k : Nat => k ≤ es'.length) (fun k => [(2, .obj nx 0), (16, .p (setP es')), (17, .p (.int es'.length)), (18, .p (.int k))])
        (fun k => ⟨(nx, ⟨24, 1, [.obj m 0]⟩) :: mapB m (nx + 1) r w n (Fk k) R W, [], nx + 1 + 1⟩) (fun k => es'.length - k) 0 (by simp) _ (AS.le_refl _ _) (leN_of [(nx + 1, f)] (by simp [mapB, mapO, mapX, h0, mf, fm_, mr, rm_, mw, wm_, fr, rf_, fw, wf_, rw_, wr_, q1, p1, q2, p2, q3, p3, q4, p4, q5, p5, hm, lm1, lm2, lm3, lm4, lm5, km, q6, p6, q7, p7, q8, p8, q9, p9, q10, p10, hf, lf1, lf2, lf3, lf4, lf5, kf, q11, p11, q12, p12, q13, p13, q14, p14, q15, p15, hr, lr1, lr2, lr3, lr4, lr5, kr, q16, p16, q17, p17, q18, p18, q19, p19, q20, p20, hw, lw1, lw2, lw3, lw4, lw5, kw])) ?_
      intro k hk
      have k1 : ∀ e ∈ es', 1 ≤ e.2 ∧ e.1 + e.2 ≤ n := fun e he => ⟨(g2 e he).1, (g2 e he).2.1⟩
      by_cases c : k < es'.length
      · have hke := k1 es'[k] (by simp)
        simp [c, mapB, mapO, mapX, mf, fm_, mr, rm_, mw, wm_, fr, rf_, fw, wf_, rw_, wr_, q1, p1, q2, p2, q3, p3, q4, p4, q5, p5, hm, lm1, lm2, lm3, lm4, lm5, km, q6, p6, q7, p7, q8, p8, q9, p9, q10, p10, hf, lf1, lf2, lf3, lf4, lf5, kf, q11, p11, q12, p12, q13, p13, q14, p14, q15, p15, hr, lr1, lr2, lr3, lr4, lr5, kr, q16, p16, q17, p17, q18, p18, q19, p19, q20, p20, hw, lw1, lw2, lw3, lw4, lw5, kw]
        refine gcall_of0 (cut41 (nx + 1 + 1 + 1) m (nx + 1) (by omega) (by omega) (by omega) 51 4 1 (mapX n (nx + 1) r w (Fk k) R W) (Fk k) es'[k] (by simp) (by simp; omega) (hO k hk).nr.up (by have := (hO k hk).len; omega) (fun e he => by have := (hO k hk).top e he; omega) (hH k c)) (by simp) (by simp [sub1, mapX, mf, fm_, mr, rm_, mw, wm_, fr, rf_, fw, wf_, rw_, wr_, q1, p1, q2, p2, q3, p3, q4, p4, q5, p5, hm, lm1, lm2, lm3, lm4, lm5, km, q6, p6, q7, p7, q8, p8, q9, p9, q10, p10, hf, lf1, lf2, lf3, lf4, lf5, kf, q11, p11, q12, p12, q13, p13, q14, p14, q15, p15, hr, lr1, lr2, lr3, lr4, lr5, kr, q16, p16, q17, p17, q18, p18, q19, p19, q20, p20, hw, lw1, lw2, lw3, lw4, lw5, kw]) trivial rfl ?_
        rw [← hS k c]
        simp [mapX, mf, fm_, mr, rm_, mw, wm_, fr, rf_, fw, wf_, rw_, wr_, q1, p1, q2, p2, q3, p3, q4, p4, q5, p5, hm, lm1, lm2, lm3, lm4, lm5, km, q6, p6, q7, p7, q8, p8, q9, p9, q10, p10, hf, lf1, lf2, lf3, lf4, lf5, kf, q11, p11, q12, p12, q13, p13, q14, p14, q15, p15, hr, lr1, lr2, lr3, lr4, lr5, kr, q16, p16, q17, p17, q18, p18, q19, p19, q20, p20, hw, lw1, lw2, lw3, lw4, lw5, kw]
        refine ⟨k + 1, by omega, by omega, leN_of [(nx + 1, nx + 1 + 1 + 1)] ?_⟩
        simp [mapB, mapO, mapX, mf, fm_, mr, rm_, mw, wm_, fr, rf_, fw, wf_, rw_, wr_, q1, p1, q2, p2, q3, p3, q4, p4, q5, p5, hm, lm1, lm2, lm3, lm4, lm5, km, q6, p6, q7, p7, q8, p8, q9, p9, q10, p10, hf, lf1, lf2, lf3, lf4, lf5, kf, q11, p11, q12, p12, q13, p13, q14, p14, q15, p15, hr, lr1, lr2, lr3, lr4, lr5, kr, q16, p16, q17, p17, q18, p18, q19, p19, q20, p20, hw, lw1, lw2, lw3, lw4, lw5, kw, wrap64_id (n := (k : Int) + 1) (by omega) (by omega)]
      · have e : k = es'.length := by omega
        subst e
        simp [mapB, mapO, mapX, mf, fm_, mr, rm_, mw, wm_, fr, rf_, fw, wf_, rw_, wr_, q1, p1, q2, p2, q3, p3, q4, p4, q5, p5, hm, lm1, lm2, lm3, lm4, lm5, km, q6, p6, q7, p7, q8, p8, q9, p9, q10, p10, hf, lf1, lf2, lf3, lf4, lf5, kf, q11, p11, q12, p12, q13, p13, q14, p14, q15, p15, hr, lr1, lr2, lr3, lr4, lr5, kr, q16, p16, q17, p17, q18, p18, q19, p19, q20, p20, hw, lw1, lw2, lw3, lw4, lw5, kw, Try.results18]
        exact ⟨[(nx, nx + 1)], by simp [mapX, mf, fm_, mr, rm_, mw, wm_, fr, rf_, fw, wf_, rw_, wr_, q1, p1, q2, p2, q3, p3, q4, p4, q5, p5, hm, lm1, lm2, lm3, lm4, lm5, km, q6, p6, q7, p7, q8, p8, q9, p9, q10, p10, hf, lf1, lf2, lf3, lf4, lf5, kf, q11, p11, q12, p12, q13, p13, q14, p14, q15, p15, hr, lr1, lr2, lr3, lr4, lr5, kr, q16, p16, q17, p17, q18, p18, q19, p19, q20, p20, hw, lw1, lw2, lw3, lw4, lw5, kw]⟩

set_option maxHeartbeats 4000000 in
set_option maxRecDepth 100000 in
theorem give16 (m f r w nx n : Nat) (h : Ids m f r w nx) (hn : n ≤ 1000) (F R W : List Ext) (hF : Ok n F) (hR : Ok n R) (hW : Ok n W) (es : List (Int × Int)) (hl : es.length ≤ 900) :
    GenC Try.prog 16 [.obj m 0, .p (.sl (es.map extI))] ⟨mapB m f r w n F R W, [], nx⟩ (.p (.bool (giveB n F W es)))
      ⟨mapB m f r nx n F R (if giveB n F W es = true then (es.map toE).foldl putL W else W), [], nx + 1⟩ := by
  have hRt := right35 n (by omega) (setP F) (setP R) (setP W) es hl
  have nF := hF.nrm hn
  have nR := hR.nrm hn
  have nW := hW.nrm hn
  obtain ⟨hm, hf, hr, hw, mf, mr, mw, fr, fw, rw_⟩ := h
  have fm_ := Ne.symm mf
  have rm_ := Ne.symm mr
  have wm_ := Ne.symm mw
  have rf_ := Ne.symm fr
  have wf_ := Ne.symm fw
  have wr_ := Ne.symm rw_
  have q1 : ¬ m = nx := by omega
  have p1 : ¬ nx = m := by omega
  have q2 : ¬ m = nx + 1 := by omega
  have p2 : ¬ nx + 1 = m := by omega
  have q3 : ¬ m = nx + 1 + 1 := by omega
  have p3 : ¬ nx + 1 + 1 = m := by omega
  have q4 : ¬ m = nx + 1 + 1 + 1 := by omega
  have p4 : ¬ nx + 1 + 1 + 1 = m := by omega
  have q5 : ¬ m = nx + 1 + 1 + 1 + 1 := by omega
  have p5 : ¬ nx + 1 + 1 + 1 + 1 = m := by omega
  have lm1 : m < nx + 1 := by omega
  have lm2 : m < nx + 1 + 1 := by omega
  have lm3 : m < nx + 1 + 1 + 1 := by omega
  have lm4 : m < nx + 1 + 1 + 1 + 1 := by omega
  have lm5 : m < nx + 1 + 1 + 1 + 1 + 1 := by omega
  have km : m < nx + 5 := by omega
  have q6 : ¬ f = nx := by omega
  have p6 : ¬ nx = f := by omega
  have q7 : ¬ f = nx + 1 := by omega
  have p7 : ¬ nx + 1 = f := by omega
  have q8 : ¬ f = nx + 1 + 1 := by omega
  have p8 : ¬ nx + 1 + 1 = f := by omega
  have q9 : ¬ f = nx + 1 + 1 + 1 := by omega
  have p9 : ¬ nx + 1 + 1 + 1 = f := by omega
  have q10 : ¬ f = nx + 1 + 1 + 1 + 1 := by omega
  have p10 : ¬ nx + 1 + 1 + 1 + 1 = f := by omega
  have lf1 : f < nx + 1 := by omega
  have lf2 : f < nx + 1 + 1 := by omega
  have lf3 : f < nx + 1 + 1 + 1 := by omega
  have lf4 : f < nx + 1 + 1 + 1 + 1 := by omega
  have lf5 : f < nx + 1 + 1 + 1 + 1 + 1 := by omega
  have kf : f < nx + 5 := by omega
  have q11 : ¬ r = nx := by omega
  have p11 : ¬ nx = r := by omega
  have q12 : ¬ r = nx + 1 := by omega
  have p12 : ¬ nx + 1 = r := by omega
  have q13 : ¬ r = nx + 1 + 1 := by omega
  have p13 : ¬ nx + 1 + 1 = r := by omega
  have q14 : ¬ r = nx + 1 + 1 + 1 := by omega
  have p14 : ¬ nx + 1 + 1 + 1 = r := by omega
  have q15 : ¬ r = nx + 1 + 1 + 1 + 1 := by omega
  have p15 : ¬ nx + 1 + 1 + 1 + 1 = r := by omega
  have lr1 : r < nx + 1 := by omega
  have lr2 : r < nx + 1 + 1 := by omega
  have lr3 : r < nx + 1 + 1 + 1 := by omega
  have lr4 : r < nx + 1 + 1 + 1 + 1 := by omega
  have lr5 : r < nx + 1 + 1 + 1 + 1 + 1 := by omega
  have kr : r < nx + 5 := by omega
  have q16 : ¬ w = nx := by omega
  have p16 : ¬ nx = w := by omega
  have q17 : ¬ w = nx + 1 := by omega
  have p17 : ¬ nx + 1 = w := by omega
  have q18 : ¬ w = nx + 1 + 1 := by omega
  have p18 : ¬ nx + 1 + 1 = w := by omega
  have q19 : ¬ w = nx + 1 + 1 + 1 := by omega
  have p19 : ¬ nx + 1 + 1 + 1 = w := by omega
  have q20 : ¬ w = nx + 1 + 1 + 1 + 1 := by omega
  have p20 : ¬ nx + 1 + 1 + 1 + 1 = w := by omega
  have lw1 : w < nx + 1 := by omega
  have lw2 : w < nx + 1 + 1 := by omega
  have lw3 : w < nx + 1 + 1 + 1 := by omega
  have lw4 : w < nx + 1 + 1 + 1 + 1 := by omega
  have lw5 : w < nx + 1 + 1 + 1 + 1 + 1 := by omega
  have kw : w < nx + 5 := by omega
  have hbm : ∀ bx k, lk m bx = some (mapO n f r w F R W) → lk f bx = some (rowO F) → lk r bx = some (rowO R) → lk w bx = some (rowO W) → borF bx (k + 2) (.obj m 0) (.ref (mapPC n F R W)) := fun bx k a b c d => bor_map a b c d
  refine gen_of_aw (rs := [_]) [2] [(6, [(0, .r 1), (3, .r 2), (4, .w [1, 2])])] [(1, nx), (2, nx + 1 + 1)] mixed Try.func16 rfl (by kernel_rfl) (by kernel_rfl) (by simp [Try.ntmps16]) rfl ?_
  simp [mapB, mapO, mapX, mf, fm_, mr, rm_, mw, wm_, fr, rf_, fw, wf_, rw_, wr_, q1, p1, q2, p2, q3, p3, q4, p4, q5, p5, hm, lm1, lm2, lm3, lm4, lm5, km, q6, p6, q7, p7, q8, p8, q9, p9, q10, p10, hf, lf1, lf2, lf3, lf4, lf5, kf, q11, p11, q12, p12, q13, p13, q14, p14, q15, p15, hr, lr1, lr2, lr3, lr4, lr5, kr, q16, p16, q17, p17, q18, p18, q19, p19, q20, p20, hw, lw1, lw2, lw3, lw4, lw5, kw]
  refine bcall_of0 hRt ⟨hbm _ _ (by simp [mf, fm_, mr, rm_, mw, wm_, fr, rf_, fw, wf_, rw_, wr_, q1, p1, q2, p2, q3, p3, q4, p4, q5, p5, hm, lm1, lm2, lm3, lm4, lm5, km, q6, p6, q7, p7, q8, p8, q9, p9, q10, p10, hf, lf1, lf2, lf3, lf4, lf5, kf, q11, p11, q12, p12, q13, p13, q14, p14, q15, p15, hr, lr1, lr2, lr3, lr4, lr5, kr, q16, p16, q17, p17, q18, p18, q19, p19, q20, p20, hw, lw1, lw2, lw3, lw4, lw5, kw]) (by simp [mf, fm_, mr, rm_, mw, wm_, fr, rf_, fw, wf_, rw_, wr_, q1, p1, q2, p2, q3, p3, q4, p4, q5, p5, hm, lm1, lm2, lm3, lm4, lm5, km, q6, p6, q7, p7, q8, p8, q9, p9, q10, p10, hf, lf1, lf2, lf3, lf4, lf5, kf, q11, p11, q12, p12, q13, p13, q14, p14, q15, p15, hr, lr1, lr2, lr3, lr4, lr5, kr, q16, p16, q17, p17, q18, p18, q19, p19, q20, p20, hw, lw1, lw2, lw3, lw4, lw5, kw]) (by simp [mf, fm_, mr, rm_, mw, wm_, fr, rf_, fw, wf_, rw_, wr_, q1, p1, q2, p2, q3, p3, q4, p4, q5, p5, hm, lm1, lm2, lm3, lm4, lm5, km, q6, p6, q7, p7, q8, p8, q9, p9, q10, p10, hf, lf1, lf2, lf3, lf4, lf5, kf, q11, p11, q12, p12, q13, p13, q14, p14, q15, p15, hr, lr1, lr2, lr3, lr4, lr5, kr, q16, p16, q17, p17, q18, p18, q19, p19, q20, p20, hw, lw1, lw2, lw3, lw4, lw5, kw]) (by simp [mf, fm_, mr, rm_, mw, wm_, fr, rf_, fw, wf_, rw_, wr_, q1, p1, q2, p2, q3, p3, q4, p4, q5, p5, hm, lm1, lm2, lm3, lm4, lm5, km, q6, p6, q7, p7, q8, p8, q9, p9, q10, p10, hf, lf1, lf2, lf3, lf4, lf5, kf, q11, p11, q12, p12, q13, p13, q14, p14, q15, p15, hr, lr1, lr2, lr3, lr4, lr5, kr, q16, p16, q17, p17, q18, p18, q19, p19, q20, p20, hw, lw1, lw2, lw3, lw4, lw5, kw]), by simp [borF], trivial⟩ rfl ?_
  cases hr : rightE n [] es with
  | false =>
    have hB : giveB n F W es = false := by unfold giveB; rw [hr]; rfl
    simp [hB, Try.results16]
    exact ⟨[(nx, w)], by simp [mapX, mf, fm_, mr, rm_, mw, wm_, fr, rf_, fw, wf_, rw_, wr_, q1, p1, q2, p2, q3, p3, q4, p4, q5, p5, hm, lm1, lm2, lm3, lm4, lm5, km, q6, p6, q7, p7, q8, p8, q9, p9, q10, p10, hf, lf1, lf2, lf3, lf4, lf5, kf, q11, p11, q12, p12, q13, p13, q14, p14, q15, p15, hr, lr1, lr2, lr3, lr4, lr5, kr, q16, p16, q17, p17, q18, p18, q19, p19, q20, p20, hw, lw1, lw2, lw3, lw4, lw5, kw]⟩
  | true =>
    obtain ⟨g1, g2, g3⟩ := right_law es [] ok_nil hr
    generalize hes : es.map toE = es' at *
    have hlen : es.length = es'.length := by rw [← hes]; simp
    rw [g1]
    have hC := contains36 (g := 37) (caps := [.ref (.ref (mapPC n F R W))]) (fun e => mtB F e || mtB W e) es' (by omega) (fun e he => meets37 n F R W e nF nW (by have := (g2 e he).2.1; omega))
    simp [mf, fm_, mr, rm_, mw, wm_, fr, rf_, fw, wf_, rw_, wr_, q1, p1, q2, p2, q3, p3, q4, p4, q5, p5, hm, lm1, lm2, lm3, lm4, lm5, km, q6, p6, q7, p7, q8, p8, q9, p9, q10, p10, hf, lf1, lf2, lf3, lf4, lf5, kf, q11, p11, q12, p12, q13, p13, q14, p14, q15, p15, hr, lr1, lr2, lr3, lr4, lr5, kr, q16, p16, q17, p17, q18, p18, q19, p19, q20, p20, hw, lw1, lw2, lw3, lw4, lw5, kw]
    refine bcall_of0 hC ⟨by simp [borF], ⟨rfl, ⟨⟨24, 1, [.obj m 0]⟩, .obj m 0, by simp [mf, fm_, mr, rm_, mw, wm_, fr, rf_, fw, wf_, rw_, wr_, q1, p1, q2, p2, q3, p3, q4, p4, q5, p5, hm, lm1, lm2, lm3, lm4, lm5, km, q6, p6, q7, p7, q8, p8, q9, p9, q10, p10, hf, lf1, lf2, lf3, lf4, lf5, kf, q11, p11, q12, p12, q13, p13, q14, p14, q15, p15, hr, lr1, lr2, lr3, lr4, lr5, kr, q16, p16, q17, p17, q18, p18, q19, p19, q20, p20, hw, lw1, lw2, lw3, lw4, lw5, kw], rfl, rfl, hbm _ _ (by simp [mf, fm_, mr, rm_, mw, wm_, fr, rf_, fw, wf_, rw_, wr_, q1, p1, q2, p2, q3, p3, q4, p4, q5, p5, hm, lm1, lm2, lm3, lm4, lm5, km, q6, p6, q7, p7, q8, p8, q9, p9, q10, p10, hf, lf1, lf2, lf3, lf4, lf5, kf, q11, p11, q12, p12, q13, p13, q14, p14, q15, p15, hr, lr1, lr2, lr3, lr4, lr5, kr, q16, p16, q17, p17, q18, p18, q19, p19, q20, p20, hw, lw1, lw2, lw3, lw4, lw5, kw]) (by simp [mf, fm_, mr, rm_, mw, wm_, fr, rf_, fw, wf_, rw_, wr_, q1, p1, q2, p2, q3, p3, q4, p4, q5, p5, hm, lm1, lm2, lm3, lm4, lm5, km, q6, p6, q7, p7, q8, p8, q9, p9, q10, p10, hf, lf1, lf2, lf3, lf4, lf5, kf, q11, p11, q12, p12, q13, p13, q14, p14, q15, p15, hr, lr1, lr2, lr3, lr4, lr5, kr, q16, p16, q17, p17, q18, p18, q19, p19, q20, p20, hw, lw1, lw2, lw3, lw4, lw5, kw]) (by simp [mf, fm_, mr, rm_, mw, wm_, fr, rf_, fw, wf_, rw_, wr_, q1, p1, q2, p2, q3, p3, q4, p4, q5, p5, hm, lm1, lm2, lm3, lm4, lm5, km, q6, p6, q7, p7, q8, p8, q9, p9, q10, p10, hf, lf1, lf2, lf3, lf4, lf5, kf, q11, p11, q12, p12, q13, p13, q14, p14, q15, p15, hr, lr1, lr2, lr3, lr4, lr5, kr, q16, p16, q17, p17, q18, p18, q19, p19, q20, p20, hw, lw1, lw2, lw3, lw4, lw5, kw]) (by simp [mf, fm_, mr, rm_, mw, wm_, fr, rf_, fw, wf_, rw_, wr_, q1, p1, q2, p2, q3, p3, q4, p4, q5, p5, hm, lm1, lm2, lm3, lm4, lm5, km, q6, p6, q7, p7, q8, p8, q9, p9, q10, p10, hf, lf1, lf2, lf3, lf4, lf5, kf, q11, p11, q12, p12, q13, p13, q14, p14, q15, p15, hr, lr1, lr2, lr3, lr4, lr5, kr, q16, p16, q17, p17, q18, p18, q19, p19, q20, p20, hw, lw1, lw2, lw3, lw4, lw5, kw])⟩, trivial⟩, trivial⟩ rfl ?_
    cases ha : es'.any (fun e => mtB F e || mtB W e) with
    | true =>
      have hB : giveB n F W es = false := by unfold giveB; rw [hr, hes, ha]; rfl
      simp [hB, Try.results16]
      exact ⟨[(nx, w)], by simp [mapX, mf, fm_, mr, rm_, mw, wm_, fr, rf_, fw, wf_, rw_, wr_, q1, p1, q2, p2, q3, p3, q4, p4, q5, p5, hm, lm1, lm2, lm3, lm4, lm5, km, q6, p6, q7, p7, q8, p8, q9, p9, q10, p10, hf, lf1, lf2, lf3, lf4, lf5, kf, q11, p11, q12, p12, q13, p13, q14, p14, q15, p15, hr, lr1, lr2, lr3, lr4, lr5, kr, q16, p16, q17, p17, q18, p18, q19, p19, q20, p20, hw, lw1, lw2, lw3, lw4, lw5, kw]⟩
    | false =>
      have hB : giveB n F W es = true := by unfold giveB; rw [hr, hes, ha]; rfl
      rw [List.any_eq_false] at ha
      have hlaw := puts_law hW (es := es') (fun e he => ⟨(g2 e he).1, (g2 e he).2.1, fun s hs hm => by have h1 := ha e he; simp at h1; have := (mt_iff hW.nr e (g2 e he).1).2 ⟨s, hs, hm⟩; rw [h1.2] at this; cases this⟩) g3
      rw [hB]
      simp [mf, fm_, mr, rm_, mw, wm_, fr, rf_, fw, wf_, rw_, wr_, q1, p1, q2, p2, q3, p3, q4, p4, q5, p5, hm, lm1, lm2, lm3, lm4, lm5, km, q6, p6, q7, p7, q8, p8, q9, p9, q10, p10, hf, lf1, lf2, lf3, lf4, lf5, kf, q11, p11, q12, p12, q13, p13, q14, p14, q15, p15, hr, lr1, lr2, lr3, lr4, lr5, kr, q16, p16, q17, p17, q18, p18, q19, p19, q20, p20, hw, lw1, lw2, lw3, lw4, lw5, kw]
      obtain ⟨Fk, hFk⟩ : ∃ Fk : Nat → List Ext, Fk = fun k => (es'.take k).foldl putL W := ⟨_, rfl⟩
      have h0 : Fk 0 = W := by rw [hFk]; simp
      have hL : Fk es'.length = es'.foldl putL W := by rw [hFk]; simp
      have hS : ∀ k (hk : k < es'.length), Fk (k + 1) = putL (Fk k) es'[k] := by intro k hk; rw [hFk]; simp only; rw [List.take_succ_eq_append_getElem hk, List.foldl_append]; rfl
      have hO : ∀ k, k ≤ es'.length → Ok n (Fk k) := fun k hk => by rw [hFk]; exact (hlaw k hk).1
      have hH : ∀ k (hk : k < es'.length), mtB (Fk k) es'[k] = false := fun k hk => by rw [hFk]; exact (hlaw k (by omega)).2.2 hk
      rw [← hL]
      clear hlaw hFk
      refine aw_loop (fun k : Nat => k ≤ es'.length) (fun k => [(2, .obj nx 0), (16, .p (setP es')), (17, .p (.int es'.length)), (18, .p (.int k))])
        (fun k => ⟨(nx, ⟨24, 1, [.obj m 0]⟩) :: mapB m f r (nx + 1) n F R (Fk k), [], nx + 1 + 1⟩) (fun k => es'.length - k) 0 (by simp) _ (AS.le_refl _ _) (leN_of [(nx + 1, w)] (by simp [mapB, mapO, mapX, h0, mf, fm_, mr, rm_, mw, wm_, fr, rf_, fw, wf_, rw_, wr_, q1, p1, q2, p2, q3, p3, q4, p4, q5, p5, hm, lm1, lm2, lm3, lm4, lm5, km, q6, p6, q7, p7, q8, p8, q9, p9, q10, p10, hf, lf1, lf2, lf3, lf4, lf5, kf, q11, p11, q12, p12, q13, p13, q14, p14, q15, p15, hr, lr1, lr2, lr3, lr4, lr5, kr, q16, p16, q17, p17, q18, p18, q19, p19, q20, p20, hw, lw1, lw2, lw3, lw4, lw5, kw])) ?_
      intro k hk
      have k1 : ∀ e ∈ es', 1 ≤ e.2 ∧ e.1 + e.2 ≤ n := fun e he => ⟨(g2 e he).1, (g2 e he).2.1⟩
      by_cases c : k < es'.length
      · have hke := k1 es'[k] (by simp)
        simp [c, mapB, mapO, mapX, mf, fm_, mr, rm_, mw, wm_, fr, rf_, fw, wf_, rw_, wr_, q1, p1, q2, p2, q3, p3, q4, p4, q5, p5, hm, lm1, lm2, lm3, lm4, lm5, km, q6, p6, q7, p7, q8, p8, q9, p9, q10, p10, hf, lf1, lf2, lf3, lf4, lf5, kf, q11, p11, q12, p12, q13, p13, q14, p14, q15, p15, hr, lr1, lr2, lr3, lr4, lr5, kr, q16, p16, q17, p17, q18, p18, q19, p19, q20, p20, hw, lw1, lw2, lw3, lw4, lw5, kw]
        refine gcall_of0 (put33 (nx + 1 + 1 + 1) m (nx + 1) (by omega) (by omega) (by omega) 51 4 3 (mapX n f r (nx + 1) F R (Fk k)) (Fk k) es'[k] (by simp) (by simp; omega) (hO k hk).nr.up (by have := (hO k hk).len; omega) (fun e he => by have := (hO k hk).top e he; omega) (by omega)) (by simp) (by simp [sub1, mapX, mf, fm_, mr, rm_, mw, wm_, fr, rf_, fw, wf_, rw_, wr_, q1, p1, q2, p2, q3, p3, q4, p4, q5, p5, hm, lm1, lm2, lm3, lm4, lm5, km, q6, p6, q7, p7, q8, p8, q9, p9, q10, p10, hf, lf1, lf2, lf3, lf4, lf5, kf, q11, p11, q12, p12, q13, p13, q14, p14, q15, p15, hr, lr1, lr2, lr3, lr4, lr5, kr, q16, p16, q17, p17, q18, p18, q19, p19, q20, p20, hw, lw1, lw2, lw3, lw4, lw5, kw]) trivial rfl ?_
        rw [← hS k c]
        simp [mapX, mf, fm_, mr, rm_, mw, wm_, fr, rf_, fw, wf_, rw_, wr_, q1, p1, q2, p2, q3, p3, q4, p4, q5, p5, hm, lm1, lm2, lm3, lm4, lm5, km, q6, p6, q7, p7, q8, p8, q9, p9, q10, p10, hf, lf1, lf2, lf3, lf4, lf5, kf, q11, p11, q12, p12, q13, p13, q14, p14, q15, p15, hr, lr1, lr2, lr3, lr4, lr5, kr, q16, p16, q17, p17, q18, p18, q19, p19, q20, p20, hw, lw1, lw2, lw3, lw4, lw5, kw]
        refine ⟨k + 1, by omega, by omega, leN_of [(nx + 1, nx + 1 + 1 + 1)] ?_⟩
        simp [mapB, mapO, mapX, mf, fm_, mr, rm_, mw, wm_, fr, rf_, fw, wf_, rw_, wr_, q1, p1, q2, p2, q3, p3, q4, p4, q5, p5, hm, lm1, lm2, lm3, lm4, lm5, km, q6, p6, q7, p7, q8, p8, q9, p9, q10, p10, hf, lf1, lf2, lf3, lf4, lf5, kf, q11, p11, q12, p12, q13, p13, q14, p14, q15, p15, hr, lr1, lr2, lr3, lr4, lr5, kr, q16, p16, q17, p17, q18, p18, q19, p19, q20, p20, hw, lw1, lw2, lw3, lw4, lw5, kw, wrap64_id (n := (k : Int) + 1) (by omega) (by omega)]
      · have e : k = es'.length := by omega
        subst e
        simp [mapB, mapO, mapX, mf, fm_, mr, rm_, mw, wm_, fr, rf_, fw, wf_, rw_, wr_, q1, p1, q2, p2, q3, p3, q4, p4, q5, p5, hm, lm1, lm2, lm3, lm4, lm5, km, q6, p6, q7, p7, q8, p8, q9, p9, q10, p10, hf, lf1, lf2, lf3, lf4, lf5, kf, q11, p11, q12, p12, q13, p13, q14, p14, q15, p15, hr, lr1, lr2, lr3, lr4, lr5, kr, q16, p16, q17, p17, q18, p18, q19, p19, q20, p20, hw, lw1, lw2, lw3, lw4, lw5, kw, Try.results16]
        exact ⟨[(nx, nx + 1)], by simp [mapX, mf, fm_, mr, rm_, mw, wm_, fr, rf_, fw, wf_, rw_, wr_, q1, p1, q2, p2, q3, p3, q4, p4, q5, p5, hm, lm1, lm2, lm3, lm4, lm5, km, q6, p6, q7, p7, q8, p8, q9, p9, q10, p10, hf, lf1, lf2, lf3, lf4, lf5, kf, q11, p11, q12, p12, q13, p13, q14, p14, q15, p15, hr, lr1, lr2, lr3, lr4, lr5, kr, q16, p16, q17, p17, q18, p18, q19, p19, q20, p20, hw, lw1, lw2, lw3, lw4, lw5, kw]⟩
end Go.Av
