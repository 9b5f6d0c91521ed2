/- What is done, broken off and taken in pieces; the document's example. -/
import Derived.Test.YtbffdmhplfclkaaNb
set_option linter.all false
/-! part P16n -/
namespace Go.Av
open Go.Proofs

theorem nr_dj {L : List Ext} (h : Nr L) : Dj L := h.gap.imp fun h s hs hs2 => by unfold inE at hs hs2; omega

set_option maxHeartbeats 4000000 in
set_option maxRecDepth 100000 in
theorem commit15 (m f r w nx n : Nat) (h : Ids m f r w nx) (hn : n ≤ 1000) (F R W : List Ext) (hF : Ok n F) (hS : Ok n W) (hd : ∀ s, mem F s → ¬ mem W s) :
    GenC Try.prog 15 [.obj m 0] ⟨mapB m f r w n F R W, [], nx⟩ (.agg true []) ⟨mapB m nx (nx + 1) (nx + 2) n (W.foldl putL F) [] [], [], nx + 3⟩ := by
  have hSl : W.length ≤ 1000 := by have := hS.len; omega
  have hlaw := puts_law hF (es := W) (fun e he => ⟨hS.nr.pos e he, hS.top e he, fun s hs hm => hd s hm ⟨e, he, hs⟩⟩) (nr_dj hS.nr)
  obtain ⟨Fk, hFk⟩ : ∃ Fk : Nat → List Ext, Fk = fun k => (W.take k).foldl putL F := ⟨_, rfl⟩
  have h0 : Fk 0 = F := by rw [hFk]; simp
  have hL : Fk W.length = W.foldl putL F := by rw [hFk]; simp
  have hSt : ∀ k (hk : k < W.length), Fk (k + 1) = putL (Fk k) W[k] := by intro k hk; rw [hFk]; simp only; rw [List.take_succ_eq_append_getElem hk, List.foldl_append]; rfl
  have hO : ∀ k, k ≤ W.length → Ok n (Fk k) := fun k hk => by rw [hFk]; exact (hlaw k hk).1
  rw [← hL]
  clear hlaw hFk
  have key : GenC Try.prog 15 [.obj m 0] ⟨mapB m f r w n F R W, [], nx⟩ (.agg true []) ⟨[(m, ⟨51, 4, [.p (.int n), .view nx 0 (Fk W.length).length 2 none, .p .nil, .p .nil]⟩), (nx, rowO (Fk W.length))], [], nx + 1⟩ := by
    obtain ⟨hm, hf, hr, hw, mf, mr, mw, fr, fw, rw_⟩ := h
    have fm_ := Ne.symm mf
    have rm_ := Ne.symm mr
    have wm_ := Ne.symm mw
    have rf_ := Ne.symm fr
    have wf_ := Ne.symm fw
    have wr_ := Ne.symm rw_
    have q1 : ¬ m = nx := by omega
    have p1 : ¬ nx = m := by omega
    have q2 : ¬ m = nx + 1 := by omega
    have p2 : ¬ nx + 1 = m := by omega
    have q3 : ¬ m = nx + 1 + 1 := by omega
    have p3 : ¬ nx + 1 + 1 = m := by omega
    have q4 : ¬ m = nx + 1 + 1 + 1 := by omega
    have p4 : ¬ nx + 1 + 1 + 1 = m := by omega
    have lm1 : m < nx + 1 := by omega
    have lm2 : m < nx + 1 + 1 := by omega
    have lm3 : m < nx + 1 + 1 + 1 := by omega
    have lm4 : m < nx + 1 + 1 + 1 + 1 := by omega
    have km : m < nx + 4 := by omega
    have q5 : ¬ f = nx := by omega
    have p5 : ¬ nx = f := by omega
    have q6 : ¬ f = nx + 1 := by omega
    have p6 : ¬ nx + 1 = f := by omega
    have q7 : ¬ f = nx + 1 + 1 := by omega
    have p7 : ¬ nx + 1 + 1 = f := by omega
    have q8 : ¬ f = nx + 1 + 1 + 1 := by omega
    have p8 : ¬ nx + 1 + 1 + 1 = f := by omega
    have lf1 : f < nx + 1 := by omega
    have lf2 : f < nx + 1 + 1 := by omega
    have lf3 : f < nx + 1 + 1 + 1 := by omega
    have lf4 : f < nx + 1 + 1 + 1 + 1 := by omega
    have kf : f < nx + 4 := by omega
    have q9 : ¬ r = nx := by omega
    have p9 : ¬ nx = r := by omega
    have q10 : ¬ r = nx + 1 := by omega
    have p10 : ¬ nx + 1 = r := by omega
    have q11 : ¬ r = nx + 1 + 1 := by omega
    have p11 : ¬ nx + 1 + 1 = r := by omega
    have q12 : ¬ r = nx + 1 + 1 + 1 := by omega
    have p12 : ¬ nx + 1 + 1 + 1 = r := by omega
    have lr1 : r < nx + 1 := by omega
    have lr2 : r < nx + 1 + 1 := by omega
    have lr3 : r < nx + 1 + 1 + 1 := by omega
    have lr4 : r < nx + 1 + 1 + 1 + 1 := by omega
    have kr : r < nx + 4 := by omega
    have q13 : ¬ w = nx := by omega
    have p13 : ¬ nx = w := by omega
    have q14 : ¬ w = nx + 1 := by omega
    have p14 : ¬ nx + 1 = w := by omega
    have q15 : ¬ w = nx + 1 + 1 := by omega
    have p15 : ¬ nx + 1 + 1 = w := by omega
    have q16 : ¬ w = nx + 1 + 1 + 1 := by omega
    have p16 : ¬ nx + 1 + 1 + 1 = w := by omega
    have lw1 : w < nx + 1 := by omega
    have lw2 : w < nx + 1 + 1 := by omega
    have lw3 : w < nx + 1 + 1 + 1 := by omega
    have lw4 : w < nx + 1 + 1 + 1 + 1 := by omega
    have kw : w < nx + 4 := by omega
    refine gen_of_aw (rs := []) [] [(3, [(3, .r 1), (4, .w [1])])] [(1, nx + 1)] mixed Try.func15 rfl (by kernel_rfl) (by kernel_rfl) (by simp [Try.ntmps15]) rfl ?_
    simp [mapB, mapO, mapX, mf, fm_, mr, rm_, mw, wm_, fr, rf_, fw, wf_, rw_, wr_, q1, p1, q2, p2, q3, p3, q4, p4, hm, lm1, lm2, lm3, lm4, km, q5, p5, q6, p6, q7, p7, q8, p8, hf, lf1, lf2, lf3, lf4, kf, q9, p9, q10, p10, q11, p11, q12, p12, hr, lr1, lr2, lr3, lr4, kr, q13, p13, q14, p14, q15, p15, q16, p16, hw, lw1, lw2, lw3, lw4, kw]
    refine aw_loop (fun k : Nat => k ≤ W.length) (fun k => [(0, .obj m 0), (7, .view w 0 W.length 2 none), (8, .p (.int W.length)), (9, .p (.int k))])
      (fun k => ⟨mapB m nx r w n (Fk k) R W, [], nx + 1⟩) (fun k => W.length - k) 0 (by simp) _ (AS.le_refl _ _) (leN_of [(nx, f)] (by simp [mapB, mapO, mapX, h0, mf, fm_, mr, rm_, mw, wm_, fr, rf_, fw, wf_, rw_, wr_, q1, p1, q2, p2, q3, p3, q4, p4, hm, lm1, lm2, lm3, lm4, km, q5, p5, q6, p6, q7, p7, q8, p8, hf, lf1, lf2, lf3, lf4, kf, q9, p9, q10, p10, q11, p11, q12, p12, hr, lr1, lr2, lr3, lr4, kr, q13, p13, q14, p14, q15, p15, q16, p16, hw, lw1, lw2, lw3, lw4, kw])) ?_
    intro k hk
    by_cases c : k < W.length
    · have hload : (((cellsL W).map AV.p).drop (k * 2)).take 2 = [.p (.int W[k].1), .p (.int W[k].2)] := by
        rw [← List.map_drop, cellsL_drop, show W.drop k = W[k] :: W.drop (k + 1) from List.drop_eq_getElem_cons c, cellsL_cons]; simp only [List.map_cons, List.take_succ_cons, List.take_zero]
      have h2 : k * 2 + 2 ≤ W.length * 2 := by omega
      have ht := hS.top W[k] (by simp)
      simp [c, mapB, mapO, mapX, hload, h2, mf, fm_, mr, rm_, mw, wm_, fr, rf_, fw, wf_, rw_, wr_, q1, p1, q2, p2, q3, p3, q4, p4, hm, lm1, lm2, lm3, lm4, km, q5, p5, q6, p6, q7, p7, q8, p8, hf, lf1, lf2, lf3, lf4, kf, q9, p9, q10, p10, q11, p11, q12, p12, hr, lr1, lr2, lr3, lr4, kr, q13, p13, q14, p14, q15, p15, q16, p16, hw, lw1, lw2, lw3, lw4, kw]
      refine gcall_of0 (put33 (nx + 1 + 1) m nx (by omega) (by omega) (by omega) 51 4 1 (mapX n nx r w (Fk k) R W) (Fk k) W[k] (by simp) (by simp; omega) (hO k hk).nr.up (by have := (hO k hk).len; omega) (fun e he => by have := (hO k hk).top e he; omega) (by omega)) (by simp) (by simp [sub1, mapX, mf, fm_, mr, rm_, mw, wm_, fr, rf_, fw, wf_, rw_, wr_, q1, p1, q2, p2, q3, p3, q4, p4, hm, lm1, lm2, lm3, lm4, km, q5, p5, q6, p6, q7, p7, q8, p8, hf, lf1, lf2, lf3, lf4, kf, q9, p9, q10, p10, q11, p11, q12, p12, hr, lr1, lr2, lr3, lr4, kr, q13, p13, q14, p14, q15, p15, q16, p16, hw, lw1, lw2, lw3, lw4, kw]) trivial rfl ?_
      rw [← hSt k c]
      simp [mapX, mf, fm_, mr, rm_, mw, wm_, fr, rf_, fw, wf_, rw_, wr_, q1, p1, q2, p2, q3, p3, q4, p4, hm, lm1, lm2, lm3, lm4, km, q5, p5, q6, p6, q7, p7, q8, p8, hf, lf1, lf2, lf3, lf4, kf, q9, p9, q10, p10, q11, p11, q12, p12, hr, lr1, lr2, lr3, lr4, kr, q13, p13, q14, p14, q15, p15, q16, p16, hw, lw1, lw2, lw3, lw4, kw]
      refine ⟨k + 1, by omega, by omega, leN_of [(nx, nx + 1 + 1)] ?_⟩
      simp [mapB, mapO, mapX, mf, fm_, mr, rm_, mw, wm_, fr, rf_, fw, wf_, rw_, wr_, q1, p1, q2, p2, q3, p3, q4, p4, hm, lm1, lm2, lm3, lm4, km, q5, p5, q6, p6, q7, p7, q8, p8, hf, lf1, lf2, lf3, lf4, kf, q9, p9, q10, p10, q11, p11, q12, p12, hr, lr1, lr2, lr3, lr4, kr, q13, p13, q14, p14, q15, p15, q16, p16, hw, lw1, lw2, lw3, lw4, kw, wrap64_id (n := (k : Int) + 1) (by omega) (by omega)]
    · have e : k = W.length := by omega
      subst e
      simp [mapB, mapO, mapX, mf, fm_, mr, rm_, mw, wm_, fr, rf_, fw, wf_, rw_, wr_, q1, p1, q2, p2, q3, p3, q4, p4, hm, lm1, lm2, lm3, lm4, km, q5, p5, q6, p6, q7, p7, q8, p8, hf, lf1, lf2, lf3, lf4, kf, q9, p9, q10, p10, q11, p11, q12, p12, hr, lr1, lr2, lr3, lr4, kr, q13, p13, q14, p14, q15, p15, q16, p16, hw, lw1, lw2, lw3, lw4, kw, Try.results15]
      exact ⟨[], by simp [mapX, mf, fm_, mr, rm_, mw, wm_, fr, rf_, fw, wf_, rw_, wr_, q1, p1, q2, p2, q3, p3, q4, p4, hm, lm1, lm2, lm3, lm4, km, q5, p5, q6, p6, q7, p7, q8, p8, hf, lf1, lf2, lf3, lf4, kf, q9, p9, q10, p10, q11, p11, q12, p12, hr, lr1, lr2, lr3, lr4, kr, q13, p13, q14, p14, q15, p15, q16, p16, hw, lw1, lw2, lw3, lw4, kw]⟩
  have hmlt := h.hm
  have q1 : ¬ m = nx := by omega
  have q2 : ¬ m = nx + 1 := by omega
  have q3 : ¬ m = nx + 2 := by omega
  have k2 : GenC Try.prog 15 [.obj m 0] ⟨mapB m f r w n F R W, [], nx⟩ (.agg true []) ⟨[(m, ⟨51, 4, [.p (.int n), .view nx 0 (Fk W.length).length 2 none, .view (nx + 1) 0 0 2 none, .p .nil]⟩), (nx + 1, rowO []), (nx, rowO (Fk W.length))], [], nx + 2⟩ := by
    have t := gen_voidO (id := m) (j := 2) (ob := ⟨51, 4, [.p (.int n), .view nx 0 (Fk W.length).length 2 none, .p .nil, .p .nil]⟩) 29 2 key (by simp [lk]) rfl
    simp [Tb.setOb, Tb.addOb, del, q1, q2, q3] at t
    exact t
  have k3 : GenC Try.prog 15 [.obj m 0] ⟨mapB m f r w n F R W, [], nx⟩ (.agg true []) ⟨[(m, ⟨51, 4, [.p (.int n), .view nx 0 (Fk W.length).length 2 none, .view (nx + 1) 0 0 2 none, .view (nx + 2) 0 0 2 none]⟩), (nx + 2, rowO []), (nx + 1, rowO []), (nx, rowO (Fk W.length))], [], nx + 3⟩ := by
    have t := gen_voidO (id := m) (j := 3) (ob := ⟨51, 4, [.p (.int n), .view nx 0 (Fk W.length).length 2 none, .view (nx + 1) 0 0 2 none, .p .nil]⟩) 29 2 k2 (by simp [lk]) rfl
    simp [Tb.setOb, Tb.addOb, del, q1, q2, q3] at t
    exact t
  refine gen_eqv k3 (fun i o ho => ?_) (fun i o ho => ho) (Nat.le_refl _)
  simp only [mapB, mapO, mapX, lk] at ho ⊢
  split at ho
  · rename_i h; rw [if_pos h]; exact ho
  · rename_i hm1
    rw [if_neg hm1]
    split at ho
    · rename_i h; subst h; simp; simpa using ho
    · split at ho
      · rename_i h; subst h; simp; simpa using ho
      · split at ho
        · rename_i h; subst h; simp; simpa using ho
        · cases ho

set_option maxHeartbeats 4000000 in
set_option maxRecDepth 100000 in
theorem abort12 (m f r w nx n : Nat) (h : Ids m f r w nx) (hn : n ≤ 1000) (F R W : List Ext) (hF : Ok n F) (hS : Ok n R) (hd : ∀ s, mem F s → ¬ mem R s) :
    GenC Try.prog 12 [.obj m 0] ⟨mapB m f r w n F R W, [], nx⟩ (.agg true []) ⟨mapB m nx (nx + 1) (nx + 2) n (R.foldl putL F) [] [], [], nx + 3⟩ := by
  have hSl : R.length ≤ 1000 := by have := hS.len; omega
  have hlaw := puts_law hF (es := R) (fun e he => ⟨hS.nr.pos e he, hS.top e he, fun s hs hm => hd s hm ⟨e, he, hs⟩⟩) (nr_dj hS.nr)
  obtain ⟨Fk, hFk⟩ : ∃ Fk : Nat → List Ext, Fk = fun k => (R.take k).foldl putL F := ⟨_, rfl⟩
  have h0 : Fk 0 = F := by rw [hFk]; simp
  have hL : Fk R.length = R.foldl putL F := by rw [hFk]; simp
  have hSt : ∀ k (hk : k < R.length), Fk (k + 1) = putL (Fk k) R[k] := by intro k hk; rw [hFk]; simp only; rw [List.take_succ_eq_append_getElem hk, List.foldl_append]; rfl
  have hO : ∀ k, k ≤ R.length → Ok n (Fk k) := fun k hk => by rw [hFk]; exact (hlaw k hk).1
  rw [← hL]
  clear hlaw hFk
  have key : GenC Try.prog 12 [.obj m 0] ⟨mapB m f r w n F R W, [], nx⟩ (.agg true []) ⟨[(m, ⟨51, 4, [.p (.int n), .view nx 0 (Fk R.length).length 2 none, .p .nil, .p .nil]⟩), (nx, rowO (Fk R.length))], [], nx + 1⟩ := by
    obtain ⟨hm, hf, hr, hw, mf, mr, mw, fr, fw, rw_⟩ := h
    have fm_ := Ne.symm mf
    have rm_ := Ne.symm mr
    have wm_ := Ne.symm mw
    have rf_ := Ne.symm fr
    have wf_ := Ne.symm fw
    have wr_ := Ne.symm rw_
    have q1 : ¬ m = nx := by omega
    have p1 : ¬ nx = m := by omega
    have q2 : ¬ m = nx + 1 := by omega
    have p2 : ¬ nx + 1 = m := by omega
    have q3 : ¬ m = nx + 1 + 1 := by omega
    have p3 : ¬ nx + 1 + 1 = m := by omega
    have q4 : ¬ m = nx + 1 + 1 + 1 := by omega
    have p4 : ¬ nx + 1 + 1 + 1 = m := by omega
    have lm1 : m < nx + 1 := by omega
    have lm2 : m < nx + 1 + 1 := by omega
    have lm3 : m < nx + 1 + 1 + 1 := by omega
    have lm4 : m < nx + 1 + 1 + 1 + 1 := by omega
    have km : m < nx + 4 := by omega
    have q5 : ¬ f = nx := by omega
    have p5 : ¬ nx = f := by omega
    have q6 : ¬ f = nx + 1 := by omega
    have p6 : ¬ nx + 1 = f := by omega
    have q7 : ¬ f = nx + 1 + 1 := by omega
    have p7 : ¬ nx + 1 + 1 = f := by omega
    have q8 : ¬ f = nx + 1 + 1 + 1 := by omega
    have p8 : ¬ nx + 1 + 1 + 1 = f := by omega
    have lf1 : f < nx + 1 := by omega
    have lf2 : f < nx + 1 + 1 := by omega
    have lf3 : f < nx + 1 + 1 + 1 := by omega
    have lf4 : f < nx + 1 + 1 + 1 + 1 := by omega
    have kf : f < nx + 4 := by omega
    have q9 : ¬ r = nx := by omega
    have p9 : ¬ nx = r := by omega
    have q10 : ¬ r = nx + 1 := by omega
    have p10 : ¬ nx + 1 = r := by omega
    have q11 : ¬ r = nx + 1 + 1 := by omega
    have p11 : ¬ nx + 1 + 1 = r := by omega
    have q12 : ¬ r = nx + 1 + 1 + 1 := by omega
    have p12 : ¬ nx + 1 + 1 + 1 = r := by omega
    have lr1 : r < nx + 1 := by omega
    have lr2 : r < nx + 1 + 1 := by omega
    have lr3 : r < nx + 1 + 1 + 1 := by omega
    have lr4 : r < nx + 1 + 1 + 1 + 1 := by omega
    have kr : r < nx + 4 := by omega
    have q13 : ¬ w = nx := by omega
    have p13 : ¬ nx = w := by omega
    have q14 : ¬ w = nx + 1 := by omega
    have p14 : ¬ nx + 1 = w := by omega
    have q15 : ¬ w = nx + 1 + 1 := by omega
    have p15 : ¬ nx + 1 + 1 = w := by omega
    have q16 : ¬ w = nx + 1 + 1 + 1 := by omega
    have p16 : ¬ nx + 1 + 1 + 1 = w := by omega
    have lw1 : w < nx + 1 := by omega
    have lw2 : w < nx + 1 + 1 := by omega
    have lw3 : w < nx + 1 + 1 + 1 := by omega
    have lw4 : w < nx + 1 + 1 + 1 + 1 := by omega
    have kw : w < nx + 4 := by omega
    refine gen_of_aw (rs := []) [] [(3, [(3, .r 1), (4, .w [1])])] [(1, nx + 1)] mixed Try.func12 rfl (by kernel_rfl) (by kernel_rfl) (by simp [Try.ntmps12]) rfl ?_
    simp [mapB, mapO, mapX, mf, fm_, mr, rm_, mw, wm_, fr, rf_, fw, wf_, rw_, wr_, q1, p1, q2, p2, q3, p3, q4, p4, hm, lm1, lm2, lm3, lm4, km, q5, p5, q6, p6, q7, p7, q8, p8, hf, lf1, lf2, lf3, lf4, kf, q9, p9, q10, p10, q11, p11, q12, p12, hr, lr1, lr2, lr3, lr4, kr, q13, p13, q14, p14, q15, p15, q16, p16, hw, lw1, lw2, lw3, lw4, kw]
    refine aw_loop (fun k : Nat => k ≤ R.length) (fun k => [(0, .obj m 0), (7, .view r 0 R.length 2 none), (8, .p (.int R.length)), (9, .p (.int k))])
      (fun k => ⟨mapB m nx r w n (Fk k) R W, [], nx + 1⟩) (fun k => R.length - k) 0 (by simp) _ (AS.le_refl _ _) (leN_of [(nx, f)] (by simp [mapB, mapO, mapX, h0, mf, fm_, mr, rm_, mw, wm_, fr, rf_, fw, wf_, rw_, wr_, q1, p1, q2, p2, q3, p3, q4, p4, hm, lm1, lm2, lm3, lm4, km, q5, p5, q6, p6, q7, p7, q8, p8, hf, lf1, lf2, lf3, lf4, kf, q9, p9, q10, p10, q11, p11, q12, p12, hr, lr1, lr2, lr3, lr4, kr, q13, p13, q14, p14, q15, p15, q16, p16, hw, lw1, lw2, lw3, lw4, kw])) ?_
    intro k hk
    by_cases c : k < R.length
    · have hload : (((cellsL R).map AV.p).drop (k * 2)).take 2 = [.p (.int R[k].1), .p (.int R[k].2)] := by
        rw [← List.map_drop, cellsL_drop, show R.drop k = R[k] :: R.drop (k + 1) from List.drop_eq_getElem_cons c, cellsL_cons]; simp only [List.map_cons, List.take_succ_cons, List.take_zero]
      have h2 : k * 2 + 2 ≤ R.length * 2 := by omega
      have ht := hS.top R[k] (by simp)
      simp [c, mapB, mapO, mapX, hload, h2, mf, fm_, mr, rm_, mw, wm_, fr, rf_, fw, wf_, rw_, wr_, q1, p1, q2, p2, q3, p3, q4, p4, hm, lm1, lm2, lm3, lm4, km, q5, p5, q6, p6, q7, p7, q8, p8, hf, lf1, lf2, lf3, lf4, kf, q9, p9, q10, p10, q11, p11, q12, p12, hr, lr1, lr2, lr3, lr4, kr, q13, p13, q14, p14, q15, p15, q16, p16, hw, lw1, lw2, lw3, lw4, kw]
      refine gcall_of0 (put33 (nx + 1 + 1) m nx (by omega) (by omega) (by omega) 51 4 1 (mapX n nx r w (Fk k) R W) (Fk k) R[k] (by simp) (by simp; omega) (hO k hk).nr.up (by have := (hO k hk).len; omega) (fun e he => by have := (hO k hk).top e he; omega) (by omega)) (by simp) (by simp [sub1, mapX, mf, fm_, mr, rm_, mw, wm_, fr, rf_, fw, wf_, rw_, wr_, q1, p1, q2, p2, q3, p3, q4, p4, hm, lm1, lm2, lm3, lm4, km, q5, p5, q6, p6, q7, p7, q8, p8, hf, lf1, lf2, lf3, lf4, kf, q9, p9, q10, p10, q11, p11, q12, p12, hr, lr1, lr2, lr3, lr4, kr, q13, p13, q14, p14, q15, p15, q16, p16, hw, lw1, lw2, lw3, lw4, kw]) trivial rfl ?_
      rw [← hSt k c]
      simp [mapX, mf, fm_, mr, rm_, mw, wm_, fr, rf_, fw, wf_, rw_, wr_, q1, p1, q2, p2, q3, p3, q4, p4, hm, lm1, lm2, lm3, lm4, km, q5, p5, q6, p6, q7, p7, q8, p8, hf, lf1, lf2, lf3, lf4, kf, q9, p9, q10, p10, q11, p11, q12, p12, hr, lr1, lr2, lr3, lr4, kr, q13, p13, q14, p14, q15, p15, q16, p16, hw, lw1, lw2, lw3, lw4, kw]
      refine ⟨k + 1, by omega, by omega, leN_of [(nx, nx + 1 + 1)] ?_⟩
      simp [mapB, mapO, mapX, mf, fm_, mr, rm_, mw, wm_, fr, rf_, fw, wf_, rw_, wr_, q1, p1, q2, p2, q3, p3, q4, p4, hm, lm1, lm2, lm3, lm4, km, q5, p5, q6, p6, q7, p7, q8, p8, hf, lf1, lf2, lf3, lf4, kf, q9, p9, q10, p10, q11, p11, q12, p12, hr, lr1, lr2, lr3, lr4, kr, q13, p13, q14, p14, q15, p15, q16, p16, hw, lw1, lw2, lw3, lw4, kw, wrap64_id (n := (k : Int) + 1) (by omega) (by omega)]
    · have e : k = R.length := by omega
      subst e
      simp [mapB, mapO, mapX, mf, fm_, mr, rm_, mw, wm_, fr, rf_, fw, wf_, rw_, wr_, q1, p1, q2, p2, q3, p3, q4, p4, hm, lm1, lm2, lm3, lm4, km, q5, p5, q6, p6, q7, p7, q8, p8, hf, lf1, lf2, lf3, lf4, kf, q9, p9, q10, p10, q11, p11, q12, p12, hr, lr1, lr2, lr3, lr4, kr, q13, p13, q14, p14, q15, p15, q16, p16, hw, lw1, lw2, lw3, lw4, kw, Try.results12]
      exact ⟨[], by simp [mapX, mf, fm_, mr, rm_, mw, wm_, fr, rf_, fw, wf_, rw_, wr_, q1, p1, q2, p2, q3, p3, q4, p4, hm, lm1, lm2, lm3, lm4, km, q5, p5, q6, p6, q7, p7, q8, p8, hf, lf1, lf2, lf3, lf4, kf, q9, p9, q10, p10, q11, p11, q12, p12, hr, lr1, lr2, lr3, lr4, kr, q13, p13, q14, p14, q15, p15, q16, p16, hw, lw1, lw2, lw3, lw4, kw]⟩
  have hmlt := h.hm
  have q1 : ¬ m = nx := by omega
  have q2 : ¬ m = nx + 1 := by omega
  have q3 : ¬ m = nx + 2 := by omega
  have k2 : GenC Try.prog 12 [.obj m 0] ⟨mapB m f r w n F R W, [], nx⟩ (.agg true []) ⟨[(m, ⟨51, 4, [.p (.int n), .view nx 0 (Fk R.length).length 2 none, .view (nx + 1) 0 0 2 none, .p .nil]⟩), (nx + 1, rowO []), (nx, rowO (Fk R.length))], [], nx + 2⟩ := by
    have t := gen_voidO (id := m) (j := 2) (ob := ⟨51, 4, [.p (.int n), .view nx 0 (Fk R.length).length 2 none, .p .nil, .p .nil]⟩) 29 2 key (by simp [lk]) rfl
    simp [Tb.setOb, Tb.addOb, del, q1, q2, q3] at t
    exact t
  have k3 : GenC Try.prog 12 [.obj m 0] ⟨mapB m f r w n F R W, [], nx⟩ (.agg true []) ⟨[(m, ⟨51, 4, [.p (.int n), .view nx 0 (Fk R.length).length 2 none, .view (nx + 1) 0 0 2 none, .view (nx + 2) 0 0 2 none]⟩), (nx + 2, rowO []), (nx + 1, rowO []), (nx, rowO (Fk R.length))], [], nx + 3⟩ := by
    have t := gen_voidO (id := m) (j := 3) (ob := ⟨51, 4, [.p (.int n), .view nx 0 (Fk R.length).length 2 none, .view (nx + 1) 0 0 2 none, .p .nil]⟩) 29 2 k2 (by simp [lk]) rfl
    simp [Tb.setOb, Tb.addOb, del, q1, q2, q3] at t
    exact t
  refine gen_eqv k3 (fun i o ho => ?_) (fun i o ho => ho) (Nat.le_refl _)
  simp only [mapB, mapO, mapX, lk] at ho ⊢
  split at ho
  · rename_i h; rw [if_pos h]; exact ho
  · rename_i hm1
    rw [if_neg hm1]
    split at ho
    · rename_i h; subst h; simp; simpa using ho
    · split at ho
      · rename_i h; subst h; simp; simpa using ho
      · split at ho
        · rename_i h; subst h; simp; simpa using ho
        · cases ho
end Go.Av

/-! part P16o -/
namespace Go.Av
open Go.Proofs

/-- so many sectors, from the front -/
def pcsL : List Ext → Nat → List Ext
  | [], _ => []
  | e :: F, k => if k = 0 then [] else (e.1, min k e.2) :: pcsL F (k - e.2)
theorem pcsL_zero (F : List Ext) : pcsL F 0 = [] := by cases F <;> simp [pcsL]
theorem szL_cons (e : Ext) (F : List Ext) : szL (e :: F) = e.2 + szL F := by simp [szL]
theorem pcsL_step : ∀ {F : List Ext} {j : Nat} (h : j < F.length) (K : Nat), szL (F.take j) < K → pcsL (F.take (j + 1)) K = pcsL (F.take j) K ++ [(F[j].1, min (K - szL (F.take j)) F[j].2)]
  | e :: F, 0, h, K, hk => by
    simp [szL] at hk
    simp [pcsL, szL]
    omega
  | e :: F, j + 1, h, K, hk => by
    simp only [List.take_succ_cons, szL_cons] at hk ⊢
    have := pcsL_step (F := F) (j := j) (by simpa using h) (K - e.2) (by omega)
    have k0 : K ≠ 0 := by omega
    have e1 : K - (e.2 + szL (List.take j F)) = K - e.2 - szL (List.take j F) := by omega
    simp only [pcsL, k0, if_false, List.getElem_cons_succ, e1]
    rw [show List.take (j + 1) F = List.take (j + 1) F from rfl, this]
    simp
theorem pcsL_stop : ∀ {F : List Ext} {j : Nat} (K : Nat), K ≤ szL (F.take j) → pcsL F K = pcsL (F.take j) K
  | [], _, _, _ => by simp
  | e :: F, 0, K, hk => by simp [szL] at hk; subst hk; simp [pcsL]
  | e :: F, j + 1, K, hk => by
    simp only [List.take_succ_cons, szL_cons] at hk ⊢
    have := pcsL_stop (F := F) (j := j) (K - e.2) (by omega)
    simp only [pcsL, this]
theorem pcsL_len (F : List Ext) : ∀ K, (pcsL F K).length ≤ F.length := by
  induction F with
  | nil => intro K; simp [pcsL]
  | cons e F ih => intro K; simp only [pcsL]; split; simp; have := ih (K - e.2); simp; omega
theorem pcsL_in {F : List Ext} (hF : Nr F) : ∀ K, (∀ e ∈ pcsL F K, 1 ≤ e.2 ∧ ∀ s, inE e s → mem F s) ∧ Dj (pcsL F K) := by
  induction F with
  | nil => intro K; exact ⟨by simp [pcsL], by simp [pcsL, Dj]⟩
  | cons e F ih =>
    intro K
    obtain ⟨h1, h2, h3⟩ := nr_cons.1 hF
    simp only [pcsL]
    split
    · exact ⟨by simp, by simp [Dj]⟩
    · rename_i k0
      obtain ⟨i1, i2⟩ := ih h2 (K - e.2)
      refine ⟨?_, List.pairwise_cons.2 ⟨?_, i2⟩⟩
      · intro x hx
        rcases List.mem_cons.1 hx with rfl | hx
        · exact ⟨by simp only; omega, fun s hs => mem_cons.2 (.inl (by unfold inE at hs ⊢; simp only at hs; omega))⟩
        · exact ⟨(i1 x hx).1, fun s hs => mem_cons.2 (.inr ((i1 x hx).2 s hs))⟩
      · intro x hx s hs hs2
        obtain ⟨y, hy, hys⟩ := (i1 x hx).2 s hs2
        have := h3 y hy
        unfold inE at hs hys; simp only at hs; omega
theorem pcsL_top {F : List Ext} {n : Nat} (hF : ∀ e ∈ F, e.1 + e.2 ≤ n) : ∀ K, ∀ e ∈ pcsL F K, e.1 + e.2 ≤ n := by
  induction F with
  | nil => intro K; simp [pcsL]
  | cons e F ih =>
    intro K x hx
    simp only [pcsL] at hx
    split at hx
    · simp at hx
    · rcases List.mem_cons.1 hx with rfl | hx
      · have := hF e (by simp); simp only; omega
      · exact ih (fun y hy => hF y (by simp [hy])) _ x hx

def piecesB (F : List Ext) (K most : Int) : Bool := decide (1 ≤ K) && decide (K ≤ (szL F : Int)) && decide (((pcsL F K.toNat).length : Int) ≤ most)

set_option maxHeartbeats 4000000 in
set_option maxRecDepth 100000 in
theorem pieces11 (m f r w nx n : Nat) (h : Ids m f r w nx) (hn : n ≤ 1000) (F R W : List Ext) (hF : Ok n F) (hR : Ok n R) (hd : ∀ s, mem F s → ¬ mem R s) (K most : Int) :
    GenC Try.prog 11 [.obj m 0, .p (.int K), .p (.int most)] ⟨mapB m f r w n F R W, [], nx⟩ (.agg true [.p (setP (if piecesB F K most = true then pcsL F K.toNat else [])), .p (.bool (piecesB F K most))])
      ⟨mapB m nx (nx + 1) w n (if piecesB F K most = true then (pcsL F K.toNat).foldl cutL F else F) (if piecesB F K most = true then (pcsL F K.toNat).foldl putL R else R) W, [], nx + 2⟩ := by
  have hfree := free10 m f r w nx n h F R W (hF.nrm hn)
  obtain ⟨hm, hf, hr, hw, mf, mr, mw, fr, fw, rw_⟩ := h
  have fm_ := Ne.symm mf
  have rm_ := Ne.symm mr
  have wm_ := Ne.symm mw
  have rf_ := Ne.symm fr
  have wf_ := Ne.symm fw
  have wr_ := Ne.symm rw_
  have q1 : ¬ m = nx := by omega
  have p1 : ¬ nx = m := by omega
  have q2 : ¬ m = nx + 1 := by omega
  have p2 : ¬ nx + 1 = m := by omega
  have q3 : ¬ m = nx + 1 + 1 := by omega
  have p3 : ¬ nx + 1 + 1 = m := by omega
  have q4 : ¬ m = nx + 1 + 1 + 1 := by omega
  have p4 : ¬ nx + 1 + 1 + 1 = m := by omega
  have lm1 : m < nx + 1 := by omega
  have lm2 : m < nx + 1 + 1 := by omega
  have lm3 : m < nx + 1 + 1 + 1 := by omega
  have lm4 : m < nx + 1 + 1 + 1 + 1 := by omega
  have km : m < nx + 4 := by omega
  have q5 : ¬ f = nx := by omega
  have p5 : ¬ nx = f := by omega
  have q6 : ¬ f = nx + 1 := by omega
  have p6 : ¬ nx + 1 = f := by omega
  have q7 : ¬ f = nx + 1 + 1 := by omega
  have p7 : ¬ nx + 1 + 1 = f := by omega
  have q8 : ¬ f = nx + 1 + 1 + 1 := by omega
  have p8 : ¬ nx + 1 + 1 + 1 = f := by omega
  have lf1 : f < nx + 1 := by omega
  have lf2 : f < nx + 1 + 1 := by omega
  have lf3 : f < nx + 1 + 1 + 1 := by omega
  have lf4 : f < nx + 1 + 1 + 1 + 1 := by omega
  have kf : f < nx + 4 := by omega
  have q9 : ¬ r = nx := by omega
  have p9 : ¬ nx = r := by omega
  have q10 : ¬ r = nx + 1 := by omega
  have p10 : ¬ nx + 1 = r := by omega
  have q11 : ¬ r = nx + 1 + 1 := by omega
  have p11 : ¬ nx + 1 + 1 = r := by omega
  have q12 : ¬ r = nx + 1 + 1 + 1 := by omega
  have p12 : ¬ nx + 1 + 1 + 1 = r := by omega
  have lr1 : r < nx + 1 := by omega
  have lr2 : r < nx + 1 + 1 := by omega
  have lr3 : r < nx + 1 + 1 + 1 := by omega
  have lr4 : r < nx + 1 + 1 + 1 + 1 := by omega
  have kr : r < nx + 4 := by omega
  have q13 : ¬ w = nx := by omega
  have p13 : ¬ nx = w := by omega
  have q14 : ¬ w = nx + 1 := by omega
  have p14 : ¬ nx + 1 = w := by omega
  have q15 : ¬ w = nx + 1 + 1 := by omega
  have p15 : ¬ nx + 1 + 1 = w := by omega
  have q16 : ¬ w = nx + 1 + 1 + 1 := by omega
  have p16 : ¬ nx + 1 + 1 + 1 = w := by omega
  have lw1 : w < nx + 1 := by omega
  have lw2 : w < nx + 1 + 1 := by omega
  have lw3 : w < nx + 1 + 1 + 1 := by omega
  have lw4 : w < nx + 1 + 1 + 1 + 1 := by omega
  have kw : w < nx + 4 := by omega
  by_cases c1 : K < 1
  · have hB : piecesB F K most = false := by simp [piecesB]; intro h; omega
    refine gen_of_aw (rs := [_, _]) [] [] [] mixed Try.func11 rfl (by kernel_rfl) (by kernel_rfl) (by simp [Try.ntmps11]) rfl ?_
    simp [hB, c1, Try.results11]
    exact ⟨[(nx, f), (nx + 1, r)], by simp [mapX, mapB, mapO, mf, fm_, mr, rm_, mw, wm_, fr, rf_, fw, wf_, rw_, wr_, q1, p1, q2, p2, q3, p3, q4, p4, hm, lm1, lm2, lm3, lm4, km, q5, p5, q6, p6, q7, p7, q8, p8, hf, lf1, lf2, lf3, lf4, kf, q9, p9, q10, p10, q11, p11, q12, p12, hr, lr1, lr2, lr3, lr4, kr, q13, p13, q14, p14, q15, p15, q16, p16, hw, lw1, lw2, lw3, lw4, kw]; omega⟩
  by_cases c2 : (szL F : Int) < K
  · have hB : piecesB F K most = false := by simp [piecesB]; intro h1 h2; omega
    refine gen_of_aw (rs := [_, _]) [] [] [] mixed Try.func11 rfl (by kernel_rfl) (by kernel_rfl) (by simp [Try.ntmps11]) rfl ?_
    simp [hB, c1]
    refine gcall_of0 hfree (by simp) (by simp [sub1, mapX, mapB, mapO, mf, fm_, mr, rm_, mw, wm_, fr, rf_, fw, wf_, rw_, wr_, q1, p1, q2, p2, q3, p3, q4, p4, hm, lm1, lm2, lm3, lm4, km, q5, p5, q6, p6, q7, p7, q8, p8, hf, lf1, lf2, lf3, lf4, kf, q9, p9, q10, p10, q11, p11, q12, p12, hr, lr1, lr2, lr3, lr4, kr, q13, p13, q14, p14, q15, p15, q16, p16, hw, lw1, lw2, lw3, lw4, kw]) trivial rfl ?_
    simp [c2, Try.results11]
    exact ⟨[(nx, f), (nx + 1, r)], by simp [mapX, mapB, mapO, mf, fm_, mr, rm_, mw, wm_, fr, rf_, fw, wf_, rw_, wr_, q1, p1, q2, p2, q3, p3, q4, p4, hm, lm1, lm2, lm3, lm4, km, q5, p5, q6, p6, q7, p7, q8, p8, hf, lf1, lf2, lf3, lf4, kf, q9, p9, q10, p10, q11, p11, q12, p12, hr, lr1, lr2, lr3, lr4, kr, q13, p13, q14, p14, q15, p15, q16, p16, hw, lw1, lw2, lw3, lw4, kw]; omega⟩
  obtain ⟨k, hkk⟩ : ∃ k : Nat, K = k := ⟨K.toNat, by omega⟩
  subst hkk
  have hlenF := hF.len
  have hlen := pcsL_len F k
  have z1 : ¬ m = nx + 3 + 1 := by omega
  have z2 : ¬ nx + 3 + 1 = m := by omega
  have z3 : ¬ w = nx + 3 + 1 := by omega
  have z4 : ¬ nx + 3 + 1 = w := by omega
  have hin := pcsL_in hF.nr k
  have htop := pcsL_top hF.top k
  have hcl := cuts_law hF hin.1 hin.2
  have hpl := puts_law hR (es := pcsL F k) (fun e he => ⟨(hin.1 e he).1, htop e he, fun s hs => hd s ((hin.1 e he).2 s hs)⟩) hin.2
  obtain ⟨Fk, hFk⟩ : ∃ Fk : Nat → List Ext, Fk = fun i => ((pcsL F k).take i).foldl cutL F := ⟨_, rfl⟩
  obtain ⟨Rk, hRk⟩ : ∃ Rk : Nat → List Ext, Rk = fun i => ((pcsL F k).take i).foldl putL R := ⟨_, rfl⟩
  have hF0 : Fk 0 = F := by rw [hFk]; simp
  have hR0 : Rk 0 = R := by rw [hRk]; simp
  have hFL : Fk (pcsL F k).length = (pcsL F k).foldl cutL F := by rw [hFk]; simp
  have hRL : Rk (pcsL F k).length = (pcsL F k).foldl putL R := by rw [hRk]; simp
  have hFS : ∀ i (hi : i < (pcsL F k).length), Fk (i + 1) = cutL (Fk i) (pcsL F k)[i] := by intro i hi; rw [hFk]; simp only; rw [List.take_succ_eq_append_getElem hi, List.foldl_append]; rfl
  have hRS : ∀ i (hi : i < (pcsL F k).length), Rk (i + 1) = putL (Rk i) (pcsL F k)[i] := by intro i hi; rw [hRk]; simp only; rw [List.take_succ_eq_append_getElem hi, List.foldl_append]; rfl
  have hFO : ∀ i, i ≤ (pcsL F k).length → Ok n (Fk i) := fun i hi => by rw [hFk]; exact (hcl i hi).1
  have hRO : ∀ i, i ≤ (pcsL F k).length → Ok n (Rk i) := fun i hi => by rw [hRk]; exact (hpl i hi).1
  have hH : ∀ i (hi : i < (pcsL F k).length), hasB (Fk i) (pcsL F k)[i] = true := fun i hi => by rw [hFk]; exact (hcl i (by omega)).2.2 hi
  clear hcl hpl hFk hRk
  refine gen_of_aw (rs := [_, _]) [] [(16, [(1, .r 1), (2, .w [])])] [(1, nx + 2)] mixed Try.func11 rfl (by kernel_rfl) (by kernel_rfl) (by simp [Try.ntmps11]) rfl ?_
  have c1' : decide ((k : Int) < 1) = false := by simp; omega
  have c2' : decide ((szL F : Int) < (k : Int)) = false := by simp; omega
  simp [c1']
  refine gcall_of0 hfree (by simp) (by simp [sub1, mapX, mapB, mapO, mf, fm_, mr, rm_, mw, wm_, fr, rf_, fw, wf_, rw_, wr_, q1, p1, q2, p2, q3, p3, q4, p4, hm, lm1, lm2, lm3, lm4, km, q5, p5, q6, p6, q7, p7, q8, p8, hf, lf1, lf2, lf3, lf4, kf, q9, p9, q10, p10, q11, p11, q12, p12, hr, lr1, lr2, lr3, lr4, kr, q13, p13, q14, p14, q15, p15, q16, p16, hw, lw1, lw2, lw3, lw4, kw]) trivial rfl ?_
  have c2n : ¬ szL F < k := by omega
  simp [c2n, mapX, mapB, mapO, mf, fm_, mr, rm_, mw, wm_, fr, rf_, fw, wf_, rw_, wr_, q1, p1, q2, p2, q3, p3, q4, p4, hm, lm1, lm2, lm3, lm4, km, q5, p5, q6, p6, q7, p7, q8, p8, hf, lf1, lf2, lf3, lf4, kf, q9, p9, q10, p10, q11, p11, q12, p12, hr, lr1, lr2, lr3, lr4, kr, q13, p13, q14, p14, q15, p15, q16, p16, hw, lw1, lw2, lw3, lw4, kw]
  refine aw_loop (fun j : Nat => j ≤ F.length) (fun j => [(0, .obj m 0), (1, .p (.int ((k - szL (F.take j) : Nat) : Int))), (2, .p (.int most)), (8, .own nx ((pcsL (F.take j) k).map extP)), (24, .view f 0 F.length 2 none), (25, .p (.int F.length)), (26, .p (.int j))])
    (fun j => ⟨mapB m f r w n F R W, [(nx, 29, 2)], nx + 1⟩) (fun j => F.length - j) 0 (by simp) _ (le_own 8 29 2 [] (.inr ⟨rfl, by simp⟩)) (leN_id (by simp [mapX, mapB, mapO, pcsL, szL, mf, fm_, mr, rm_, mw, wm_, fr, rf_, fw, wf_, rw_, wr_, q1, p1, q2, p2, q3, p3, q4, p4, hm, lm1, lm2, lm3, lm4, km, q5, p5, q6, p6, q7, p7, q8, p8, hf, lf1, lf2, lf3, lf4, kf, q9, p9, q10, p10, q11, p11, q12, p12, hr, lr1, lr2, lr3, lr4, kr, q13, p13, q14, p14, q15, p15, q16, p16, hw, lw1, lw2, lw3, lw4, kw])) ?_
  intro j hj
  by_cases c3 : j < F.length
  · have hload : (((cellsL F).map AV.p).drop (j * 2)).take 2 = [.p (.int F[j].1), .p (.int F[j].2)] := by
      rw [← List.map_drop, cellsL_drop, show F.drop j = F[j] :: F.drop (j + 1) from List.drop_eq_getElem_cons c3, cellsL_cons]; simp only [List.map_cons, List.take_succ_cons, List.take_zero]
    have h2 : j * 2 + 2 ≤ F.length * 2 := by omega
    by_cases cz : k - szL (F.take j) = 0
    · have hst := pcsL_stop (F := F) (j := j) k (by omega)
      simp [c3, cz, mapX, mapB, mapO, hload, h2, mf, fm_, mr, rm_, mw, wm_, fr, rf_, fw, wf_, rw_, wr_, q1, p1, q2, p2, q3, p3, q4, p4, hm, lm1, lm2, lm3, lm4, km, q5, p5, q6, p6, q7, p7, q8, p8, hf, lf1, lf2, lf3, lf4, kf, q9, p9, q10, p10, q11, p11, q12, p12, hr, lr1, lr2, lr3, lr4, kr, q13, p13, q14, p14, q15, p15, q16, p16, hw, lw1, lw2, lw3, lw4, kw]
      rw [← hst]
      by_cases c4 : most < ((pcsL F k).length : Int)
      · have hB : piecesB F k most = false := by simp [piecesB]; intro h1 h2; omega
        simp [c4, hB, Try.results11, mapX, mapB, mapO, mf, fm_, mr, rm_, mw, wm_, fr, rf_, fw, wf_, rw_, wr_, q1, p1, q2, p2, q3, p3, q4, p4, hm, lm1, lm2, lm3, lm4, km, q5, p5, q6, p6, q7, p7, q8, p8, hf, lf1, lf2, lf3, lf4, kf, q9, p9, q10, p10, q11, p11, q12, p12, hr, lr1, lr2, lr3, lr4, kr, q13, p13, q14, p14, q15, p15, q16, p16, hw, lw1, lw2, lw3, lw4, kw]
        exact ⟨[(nx, f), (nx + 1, r)], by simp [mapX, mapB, mapO, mf, fm_, mr, rm_, mw, wm_, fr, rf_, fw, wf_, rw_, wr_, q1, p1, q2, p2, q3, p3, q4, p4, hm, lm1, lm2, lm3, lm4, km, q5, p5, q6, p6, q7, p7, q8, p8, hf, lf1, lf2, lf3, lf4, kf, q9, p9, q10, p10, q11, p11, q12, p12, hr, lr1, lr2, lr3, lr4, kr, q13, p13, q14, p14, q15, p15, q16, p16, hw, lw1, lw2, lw3, lw4, kw]; omega⟩
      · have hB : piecesB F k most = true := by simp [piecesB]; omega
        simp [c4, hB]
        refine aw_loop (fun i : Nat => i ≤ (pcsL F k).length) (fun i => [(0, .obj m 0), (8, .p (setP (pcsL F k))), (53, .p (setP (pcsL F k))), (54, .p (.int (pcsL F k).length)), (55, .p (.int i))])
          (fun i => ⟨mapB m nx (nx + 1) w n (Fk i) (Rk i) W, [], nx + 2⟩) (fun i => (pcsL F k).length - i) 0 (by simp) _ (AS.le_refl _ _) (leN_of [(nx, f), (nx + 1, r)] (by simp [mapX, mapB, mapO, hF0, hR0, mf, fm_, mr, rm_, mw, wm_, fr, rf_, fw, wf_, rw_, wr_, q1, p1, q2, p2, q3, p3, q4, p4, hm, lm1, lm2, lm3, lm4, km, q5, p5, q6, p6, q7, p7, q8, p8, hf, lf1, lf2, lf3, lf4, kf, q9, p9, q10, p10, q11, p11, q12, p12, hr, lr1, lr2, lr3, lr4, kr, q13, p13, q14, p14, q15, p15, q16, p16, hw, lw1, lw2, lw3, lw4, kw] <;> omega)) ?_
        intro i hi
        by_cases c5 : i < (pcsL F k).length
        · have hT := take31 m nx (nx + 1) w (nx + 3) n ⟨by omega, by omega, by omega, by omega, by omega, by omega, mw, by omega, by omega, by omega⟩ (Fk i) (Rk i) W (pcsL F k)[i] ((hFO i hi).nrm hn) ((hRO i hi).nrm hn) (hH i c5) (by have := htop _ (List.getElem_mem c5); omega)
          rw [← hFS i c5, ← hRS i c5] at hT
          simp [c5, mapX, mapB, mapO, mf, fm_, mr, rm_, mw, wm_, fr, rf_, fw, wf_, rw_, wr_, q1, p1, q2, p2, q3, p3, q4, p4, hm, lm1, lm2, lm3, lm4, km, q5, p5, q6, p6, q7, p7, q8, p8, hf, lf1, lf2, lf3, lf4, kf, q9, p9, q10, p10, q11, p11, q12, p12, hr, lr1, lr2, lr3, lr4, kr, q13, p13, q14, p14, q15, p15, q16, p16, hw, lw1, lw2, lw3, lw4, kw]
          refine gcall_of0 hT (by simp) (by simp [sub1, mapX, mapB, mapO, mf, fm_, mr, rm_, mw, wm_, fr, rf_, fw, wf_, rw_, wr_, q1, p1, q2, p2, q3, p3, q4, p4, hm, lm1, lm2, lm3, lm4, km, q5, p5, q6, p6, q7, p7, q8, p8, hf, lf1, lf2, lf3, lf4, kf, q9, p9, q10, p10, q11, p11, q12, p12, hr, lr1, lr2, lr3, lr4, kr, q13, p13, q14, p14, q15, p15, q16, p16, hw, lw1, lw2, lw3, lw4, kw]) trivial rfl ?_
          simp [mapX, mapB, mapO, mf, fm_, mr, rm_, mw, wm_, fr, rf_, fw, wf_, rw_, wr_, q1, p1, q2, p2, q3, p3, q4, p4, hm, lm1, lm2, lm3, lm4, km, q5, p5, q6, p6, q7, p7, q8, p8, hf, lf1, lf2, lf3, lf4, kf, q9, p9, q10, p10, q11, p11, q12, p12, hr, lr1, lr2, lr3, lr4, kr, q13, p13, q14, p14, q15, p15, q16, p16, hw, lw1, lw2, lw3, lw4, kw]
          refine ⟨i + 1, by omega, by omega, leN_of [(nx, nx + 3), (nx + 1, nx + 3 + 1)] ?_⟩
          simp [mapX, mapB, mapO, mf, fm_, mr, rm_, mw, wm_, fr, rf_, fw, wf_, rw_, wr_, q1, p1, q2, p2, q3, p3, q4, p4, hm, lm1, lm2, lm3, lm4, km, q5, p5, q6, p6, q7, p7, q8, p8, hf, lf1, lf2, lf3, lf4, kf, q9, p9, q10, p10, q11, p11, q12, p12, hr, lr1, lr2, lr3, lr4, kr, q13, p13, q14, p14, q15, p15, q16, p16, hw, lw1, lw2, lw3, lw4, kw, wrap64_id (n := (i : Int) + 1) (by omega) (by omega), z1, z2, z3, z4]
        · have e : i = (pcsL F k).length := by omega
          subst e
          simp [hFL, hRL, Try.results11, mapX, mapB, mapO, mf, fm_, mr, rm_, mw, wm_, fr, rf_, fw, wf_, rw_, wr_, q1, p1, q2, p2, q3, p3, q4, p4, hm, lm1, lm2, lm3, lm4, km, q5, p5, q6, p6, q7, p7, q8, p8, hf, lf1, lf2, lf3, lf4, kf, q9, p9, q10, p10, q11, p11, q12, p12, hr, lr1, lr2, lr3, lr4, kr, q13, p13, q14, p14, q15, p15, q16, p16, hw, lw1, lw2, lw3, lw4, kw]
          exact ⟨[], by simp [mapX, mapB, mapO, mf, fm_, mr, rm_, mw, wm_, fr, rf_, fw, wf_, rw_, wr_, q1, p1, q2, p2, q3, p3, q4, p4, hm, lm1, lm2, lm3, lm4, km, q5, p5, q6, p6, q7, p7, q8, p8, hf, lf1, lf2, lf3, lf4, kf, q9, p9, q10, p10, q11, p11, q12, p12, hr, lr1, lr2, lr3, lr4, kr, q13, p13, q14, p14, q15, p15, q16, p16, hw, lw1, lw2, lw3, lw4, kw]⟩
    · have hstep := pcsL_step c3 k (by omega)
      have hszt := szL_take c3
      have hl1 := pcsL_len (F.take j) k
      simp at hl1
      have ft := hF.top F[j] (by simp)
      have hkb : k ≤ 1000000000 := by
        have := szL_le (L := F) fun e he => by have := hF.top e he; omega
        have : F.length * 1000000 ≤ 501 * 1000000 := Nat.mul_le_mul_right _ (by omega)
        omega
      have cz' : (((k - szL (F.take j) : Nat) : Int) == 0) = false := by simp; omega
      have hmin : (if F[j].2 < k - szL (F.take j) then (F[j].2 : Int) else ((k - szL (F.take j) : Nat) : Int)) = ((min (k - szL (F.take j)) F[j].2 : Nat) : Int) := by
        split <;> omega
      have w2 : IntKind.i64.wrap (((k - szL (F.take j) : Nat) : Int) - ((min (k - szL (F.take j)) F[j].2 : Nat) : Int)) = ((k - szL (F.take (j + 1)) : Nat) : Int) := by
        rw [hszt, wrap64_id (by omega) (by omega)]; omega
      simp [c3, cz', mapX, mapB, mapO, hload, h2, hmin, w2, mf, fm_, mr, rm_, mw, wm_, fr, rf_, fw, wf_, rw_, wr_, q1, p1, q2, p2, q3, p3, q4, p4, hm, lm1, lm2, lm3, lm4, km, q5, p5, q6, p6, q7, p7, q8, p8, hf, lf1, lf2, lf3, lf4, kf, q9, p9, q10, p10, q11, p11, q12, p12, hr, lr1, lr2, lr3, lr4, kr, q13, p13, q14, p14, q15, p15, q16, p16, hw, lw1, lw2, lw3, lw4, kw]
      refine ⟨fun x u v _ hx => by subst hx; rfl, by omega, by omega, j + 1, by omega, by omega, leN_of [(nx, nx + 1 + 1)] ?_⟩
      simp [mapX, mapB, mapO, hstep, wrap64_id (n := (j : Int) + 1) (by omega) (by omega), mf, fm_, mr, rm_, mw, wm_, fr, rf_, fw, wf_, rw_, wr_, q1, p1, q2, p2, q3, p3, q4, p4, hm, lm1, lm2, lm3, lm4, km, q5, p5, q6, p6, q7, p7, q8, p8, hf, lf1, lf2, lf3, lf4, kf, q9, p9, q10, p10, q11, p11, q12, p12, hr, lr1, lr2, lr3, lr4, kr, q13, p13, q14, p14, q15, p15, q16, p16, hw, lw1, lw2, lw3, lw4, kw]
  · have e : j = F.length := by omega
    subst e
    simp [List.take_length]
    simp [mapX, mapB, mapO, mf, fm_, mr, rm_, mw, wm_, fr, rf_, fw, wf_, rw_, wr_, q1, p1, q2, p2, q3, p3, q4, p4, hm, lm1, lm2, lm3, lm4, km, q5, p5, q6, p6, q7, p7, q8, p8, hf, lf1, lf2, lf3, lf4, kf, q9, p9, q10, p10, q11, p11, q12, p12, hr, lr1, lr2, lr3, lr4, kr, q13, p13, q14, p14, q15, p15, q16, p16, hw, lw1, lw2, lw3, lw4, kw]
    by_cases c4 : most < ((pcsL F k).length : Int)
    · have hB : piecesB F k most = false := by simp [piecesB]; intro h1 h2; omega
      simp [c4, hB, Try.results11, mapX, mapB, mapO, mf, fm_, mr, rm_, mw, wm_, fr, rf_, fw, wf_, rw_, wr_, q1, p1, q2, p2, q3, p3, q4, p4, hm, lm1, lm2, lm3, lm4, km, q5, p5, q6, p6, q7, p7, q8, p8, hf, lf1, lf2, lf3, lf4, kf, q9, p9, q10, p10, q11, p11, q12, p12, hr, lr1, lr2, lr3, lr4, kr, q13, p13, q14, p14, q15, p15, q16, p16, hw, lw1, lw2, lw3, lw4, kw]
      exact ⟨[(nx, f), (nx + 1, r)], by simp [mapX, mapB, mapO, mf, fm_, mr, rm_, mw, wm_, fr, rf_, fw, wf_, rw_, wr_, q1, p1, q2, p2, q3, p3, q4, p4, hm, lm1, lm2, lm3, lm4, km, q5, p5, q6, p6, q7, p7, q8, p8, hf, lf1, lf2, lf3, lf4, kf, q9, p9, q10, p10, q11, p11, q12, p12, hr, lr1, lr2, lr3, lr4, kr, q13, p13, q14, p14, q15, p15, q16, p16, hw, lw1, lw2, lw3, lw4, kw]; omega⟩
    · have hB : piecesB F k most = true := by simp [piecesB]; omega
      simp [c4, hB]
      refine aw_loop (fun i : Nat => i ≤ (pcsL F k).length) (fun i => [(0, .obj m 0), (8, .p (setP (pcsL F k))), (53, .p (setP (pcsL F k))), (54, .p (.int (pcsL F k).length)), (55, .p (.int i))])
        (fun i => ⟨mapB m nx (nx + 1) w n (Fk i) (Rk i) W, [], nx + 2⟩) (fun i => (pcsL F k).length - i) 0 (by simp) _ (AS.le_refl _ _) (leN_of [(nx, f), (nx + 1, r)] (by simp [mapX, mapB, mapO, hF0, hR0, mf, fm_, mr, rm_, mw, wm_, fr, rf_, fw, wf_, rw_, wr_, q1, p1, q2, p2, q3, p3, q4, p4, hm, lm1, lm2, lm3, lm4, km, q5, p5, q6, p6, q7, p7, q8, p8, hf, lf1, lf2, lf3, lf4, kf, q9, p9, q10, p10, q11, p11, q12, p12, hr, lr1, lr2, lr3, lr4, kr, q13, p13, q14, p14, q15, p15, q16, p16, hw, lw1, lw2, lw3, lw4, kw] <;> omega)) ?_
      intro i hi
      by_cases c5 : i < (pcsL F k).length
      · have hT := take31 m nx (nx + 1) w (nx + 3) n ⟨by omega, by omega, by omega, by omega, by omega, by omega, mw, by omega, by omega, by omega⟩ (Fk i) (Rk i) W (pcsL F k)[i] ((hFO i hi).nrm hn) ((hRO i hi).nrm hn) (hH i c5) (by have := htop _ (List.getElem_mem c5); omega)
        rw [← hFS i c5, ← hRS i c5] at hT
        simp [c5, mapX, mapB, mapO, mf, fm_, mr, rm_, mw, wm_, fr, rf_, fw, wf_, rw_, wr_, q1, p1, q2, p2, q3, p3, q4, p4, hm, lm1, lm2, lm3, lm4, km, q5, p5, q6, p6, q7, p7, q8, p8, hf, lf1, lf2, lf3, lf4, kf, q9, p9, q10, p10, q11, p11, q12, p12, hr, lr1, lr2, lr3, lr4, kr, q13, p13, q14, p14, q15, p15, q16, p16, hw, lw1, lw2, lw3, lw4, kw]
        refine gcall_of0 hT (by simp) (by simp [sub1, mapX, mapB, mapO, mf, fm_, mr, rm_, mw, wm_, fr, rf_, fw, wf_, rw_, wr_, q1, p1, q2, p2, q3, p3, q4, p4, hm, lm1, lm2, lm3, lm4, km, q5, p5, q6, p6, q7, p7, q8, p8, hf, lf1, lf2, lf3, lf4, kf, q9, p9, q10, p10, q11, p11, q12, p12, hr, lr1, lr2, lr3, lr4, kr, q13, p13, q14, p14, q15, p15, q16, p16, hw, lw1, lw2, lw3, lw4, kw]) trivial rfl ?_
        simp [mapX, mapB, mapO, mf, fm_, mr, rm_, mw, wm_, fr, rf_, fw, wf_, rw_, wr_, q1, p1, q2, p2, q3, p3, q4, p4, hm, lm1, lm2, lm3, lm4, km, q5, p5, q6, p6, q7, p7, q8, p8, hf, lf1, lf2, lf3, lf4, kf, q9, p9, q10, p10, q11, p11, q12, p12, hr, lr1, lr2, lr3, lr4, kr, q13, p13, q14, p14, q15, p15, q16, p16, hw, lw1, lw2, lw3, lw4, kw]
        refine ⟨i + 1, by omega, by omega, leN_of [(nx, nx + 3), (nx + 1, nx + 3 + 1)] ?_⟩
        simp [mapX, mapB, mapO, mf, fm_, mr, rm_, mw, wm_, fr, rf_, fw, wf_, rw_, wr_, q1, p1, q2, p2, q3, p3, q4, p4, hm, lm1, lm2, lm3, lm4, km, q5, p5, q6, p6, q7, p7, q8, p8, hf, lf1, lf2, lf3, lf4, kf, q9, p9, q10, p10, q11, p11, q12, p12, hr, lr1, lr2, lr3, lr4, kr, q13, p13, q14, p14, q15, p15, q16, p16, hw, lw1, lw2, lw3, lw4, kw, wrap64_id (n := (i : Int) + 1) (by omega) (by omega), z1, z2, z3, z4]
      · have e : i = (pcsL F k).length := by omega
        subst e
        simp [hFL, hRL, Try.results11, mapX, mapB, mapO, mf, fm_, mr, rm_, mw, wm_, fr, rf_, fw, wf_, rw_, wr_, q1, p1, q2, p2, q3, p3, q4, p4, hm, lm1, lm2, lm3, lm4, km, q5, p5, q6, p6, q7, p7, q8, p8, hf, lf1, lf2, lf3, lf4, kf, q9, p9, q10, p10, q11, p11, q12, p12, hr, lr1, lr2, lr3, lr4, kr, q13, p13, q14, p14, q15, p15, q16, p16, hw, lw1, lw2, lw3, lw4, kw]
        exact ⟨[], by simp [mapX, mapB, mapO, mf, fm_, mr, rm_, mw, wm_, fr, rf_, fw, wf_, rw_, wr_, q1, p1, q2, p2, q3, p3, q4, p4, hm, lm1, lm2, lm3, lm4, km, q5, p5, q6, p6, q7, p7, q8, p8, hf, lf1, lf2, lf3, lf4, kf, q9, p9, q10, p10, q11, p11, q12, p12, hr, lr1, lr2, lr3, lr4, kr, q13, p13, q14, p14, q15, p15, q16, p16, hw, lw1, lw2, lw3, lw4, kw]⟩
end Go.Av

/-! part P16p -/
namespace Go.Av
open Go.Proofs

theorem can_34 : CanCall Try.prog 34 := ⟨Try.f34, Try.func34, by kernel_rfl, by kernel_rfl⟩
set_option maxHeartbeats 400000 in
theorem clone34 (nx id : Nat) (hid : id < nx) (L : List Ext) (hl : L.length ≤ 1000) :
    GenC Try.prog 34 [.view id 0 L.length 2 none] ⟨[(id, rowO L)], [], nx⟩ (.view nx 0 L.length 2 none) ⟨[(id, rowO L), (nx, rowO L)], [], nx + 1⟩ := by
  have hne : ¬ id = nx := by omega
  have hne2 : ¬ nx = id := by omega
  have hlt : id < nx + 1 := by omega
  have htk : List.take (L.length * 2) ((cellsL L).map AV.p) = (cellsL L).map AV.p := List.take_of_length_le (by simp)
  refine gen_splitK (pre := []) (post := []) can_34 (fun c h1 h2 h3 => ?_) ?_
  · obtain ⟨c, rfl⟩ : ∃ d, c = d + 1 := ⟨c - 1, by omega⟩
    refine gen_of_aw (rs := [_]) [7] [] [] mixed Try.func34 rfl (by kernel_rfl) (by kernel_rfl) (by simp [Try.ntmps34]) rfl ?_
    simp [Try.results34, hne, hne2]
    exact ⟨by omega, by omega, [], by simp [hne, hne2, hlt, htk]⟩
  · intro hn
    have hL : L = [] := List.eq_nil_of_length_eq_zero hn
    subst hL
    refine gen_nil (pre := []) (post := []) can_34 (fun _ => ?_) ?_
    · have key : GenC Try.prog 34 [.p .nil] ⟨[(id, rowO [])], [], nx⟩ (.p .nil) ⟨[(id, rowO [])], [], nx⟩ := by
        refine gen_of_aw (rs := [.p .nil]) [7] [] [] mixed Try.func34 rfl (by kernel_rfl) (by kernel_rfl) (by simp [Try.ntmps34]) rfl ?_
        simp [Try.results34]
        exact ⟨[], by simp [hne, hne2, hid]⟩
      have := gen_void (el := 29) (s := 2) key trivial
      refine gen_eqv this (fun i o ho => ?_) (fun i o ho => ho) (Nat.le_refl _)
      simp only [Tb.addOb, lk] at ho ⊢
      split at ho
      · rename_i h; subst h; rw [if_neg hne]; simpa using ho
      · split at ho
        · rename_i h; rw [if_pos h]; exact ho
        · cases ho
    · refine gen_of_aw (rs := [_]) [7] [] [] mixed Try.func34 rfl (by kernel_rfl) (by kernel_rfl) (by simp [Try.ntmps34]) rfl ?_
      simp [Try.results34, hne, hne2]
      exact ⟨[], by simp [hne, hne2, hlt]⟩

theorem runs14 (m f r w nx n : Nat) (h : Ids m f r w nx) (F R W : List Ext) (hl : F.length ≤ 1000) :
    GenC Try.prog 14 [.obj m 0] ⟨mapB m f r w n F R W, [], nx⟩ (.view nx 0 F.length 2 none) ⟨(nx, rowO F) :: mapB m f r w n F R W, [], nx + 1⟩ := by
  obtain ⟨hm, hf, hr, hw, mf, mr, mw, fr, fw, rw_⟩ := h
  have fm_ := Ne.symm mf
  have rm_ := Ne.symm mr
  have wm_ := Ne.symm mw
  have rf_ := Ne.symm fr
  have wf_ := Ne.symm fw
  have wr_ := Ne.symm rw_
  have q1 : ¬ m = nx := by omega
  have p1 : ¬ nx = m := by omega
  have q2 : ¬ m = nx + 1 := by omega
  have p2 : ¬ nx + 1 = m := by omega
  have q3 : ¬ m = nx + 1 + 1 := by omega
  have p3 : ¬ nx + 1 + 1 = m := by omega
  have lm1 : m < nx + 1 := by omega
  have lm2 : m < nx + 1 + 1 := by omega
  have lm3 : m < nx + 1 + 1 + 1 := by omega
  have km : m < nx + 3 := by omega
  have q4 : ¬ f = nx := by omega
  have p4 : ¬ nx = f := by omega
  have q5 : ¬ f = nx + 1 := by omega
  have p5 : ¬ nx + 1 = f := by omega
  have q6 : ¬ f = nx + 1 + 1 := by omega
  have p6 : ¬ nx + 1 + 1 = f := by omega
  have lf1 : f < nx + 1 := by omega
  have lf2 : f < nx + 1 + 1 := by omega
  have lf3 : f < nx + 1 + 1 + 1 := by omega
  have kf : f < nx + 3 := by omega
  have q7 : ¬ r = nx := by omega
  have p7 : ¬ nx = r := by omega
  have q8 : ¬ r = nx + 1 := by omega
  have p8 : ¬ nx + 1 = r := by omega
  have q9 : ¬ r = nx + 1 + 1 := by omega
  have p9 : ¬ nx + 1 + 1 = r := by omega
  have lr1 : r < nx + 1 := by omega
  have lr2 : r < nx + 1 + 1 := by omega
  have lr3 : r < nx + 1 + 1 + 1 := by omega
  have kr : r < nx + 3 := by omega
  have q10 : ¬ w = nx := by omega
  have p10 : ¬ nx = w := by omega
  have q11 : ¬ w = nx + 1 := by omega
  have p11 : ¬ nx + 1 = w := by omega
  have q12 : ¬ w = nx + 1 + 1 := by omega
  have p12 : ¬ nx + 1 + 1 = w := by omega
  have lw1 : w < nx + 1 := by omega
  have lw2 : w < nx + 1 + 1 := by omega
  have lw3 : w < nx + 1 + 1 + 1 := by omega
  have kw : w < nx + 3 := by omega
  refine gen_of_aw (rs := [_]) [] [] [] mixed Try.func14 rfl (by kernel_rfl) (by kernel_rfl) (by simp [Try.ntmps14]) rfl ?_
  simp [mapB, mapO, mapX, mf, fm_, mr, rm_, mw, wm_, fr, rf_, fw, wf_, rw_, wr_, q1, p1, q2, p2, q3, p3, hm, lm1, lm2, lm3, km, q4, p4, q5, p5, q6, p6, hf, lf1, lf2, lf3, kf, q7, p7, q8, p8, q9, p9, hr, lr1, lr2, lr3, kr, q10, p10, q11, p11, q12, p12, hw, lw1, lw2, lw3, kw]
  refine gcall_of0 (clone34 nx f hf F hl) (by simp) (by simp [sub1, mf, fm_, mr, rm_, mw, wm_, fr, rf_, fw, wf_, rw_, wr_, q1, p1, q2, p2, q3, p3, hm, lm1, lm2, lm3, km, q4, p4, q5, p5, q6, p6, hf, lf1, lf2, lf3, kf, q7, p7, q8, p8, q9, p9, hr, lr1, lr2, lr3, kr, q10, p10, q11, p11, q12, p12, hw, lw1, lw2, lw3, kw]) trivial rfl ?_
  simp [Try.results14]
  exact ⟨[], by simp [mapX, mf, fm_, mr, rm_, mw, wm_, fr, rf_, fw, wf_, rw_, wr_, q1, p1, q2, p2, q3, p3, hm, lm1, lm2, lm3, km, q4, p4, q5, p5, q6, p6, hf, lf1, lf2, lf3, kf, q7, p7, q8, p8, q9, p9, hr, lr1, lr2, lr3, kr, q10, p10, q11, p11, q12, p12, hw, lw1, lw2, lw3, kw]⟩

def sameI (a b : List (Int × Int)) : Bool := a == b
theorem same13 (a b : List (Int × Int)) (ha : a.length ≤ 100000) (hb : b.length ≤ 100000) : PureC Try.prog 13 [.sl (a.map extI), .sl (b.map extI)] (.bool (a == b)) := by
  refine pure_of_aw (ys := [_]) [] [] [] mixed Try.func13 rfl (by kernel_rfl) (by kernel_rfl) (by simp [Try.ntmps13]) rfl ?_
  by_cases c : a.length = b.length
  · have e1 : ((a.length : Int) != (b.length : Int)) = false := by simp; omega
    simp [e1]
    refine aw_loop0 (fun k : Nat => k ≤ a.length ∧ a.take k = b.take k) (fun k => [(0, .p (.sl (a.map extI))), (1, .p (.sl (b.map extI))), (5, .p (.int k))]) (fun k => a.length - k) 0 (by simp) (leN_id (by simp)) ?_
    rintro k ⟨h1, h2⟩
    by_cases c1 : k < a.length
    · have c2 : k < b.length := by omega
      by_cases c3 : a[k] = b[k]
      · simp [c1, c2, c3]
        refine ⟨k + 1, ⟨by omega, ?_⟩, by omega, leN_id ?_⟩
        · rw [List.take_succ_eq_append_getElem c1, List.take_succ_eq_append_getElem c2, h2, c3]
        · simp [wrap64_id (n := (k : Int) + 1) (by omega) (by omega)]
      · have hne : ¬ a = b := fun e => c3 (by subst e; rfl)
        have c4 : (a[k].1 == b[k].1 && (a[k].2 == b[k].2)) = false := by
          rw [Bool.eq_false_iff]; intro h; simp at h; exact c3 (Prod.ext h.1 h.2)
        have c5 : (a == b) = false := by simpa using hne
        simp [c1, c2, c4, c5, Try.results13]
    · have e : k = a.length := by omega
      subst e
      have hab : a = b := by rw [List.take_length, c, List.take_length] at h2; exact h2
      simp [Try.results13, hab]
  · have e1 : ((a.length : Int) != (b.length : Int)) = true := by simp; omega
    have hne : (a == b) = false := by simp; intro h; subst h; exact c rfl
    simp [e1, hne, Try.results13]
end Go.Av

/-! part P16q -/
namespace Go.Av
open Go.Proofs

theorem ok_dec {n : Nat} {L : List Ext} (h1 : ∀ e ∈ L, 1 ≤ e.2) (h2 : L.Pairwise fun a b => a.1 + a.2 < b.1) (h3 : ∀ e ∈ L, e.1 + e.2 ≤ n) : Ok n L := ⟨⟨h1, h2⟩, h3⟩

set_option maxHeartbeats 2000000 in
set_option maxRecDepth 100000 in
theorem awake7 : PureC Try.prog 7 [] (.bool true) := by
  have o1 : Ok 10 [(0, 10)] := ok_dec (by decide) (by decide) (by decide)
  have o2 : Ok 10 [(4, 6)] := ok_dec (by decide) (by decide) (by decide)
  have o3 : Ok 10 [(8, 2)] := ok_dec (by decide) (by decide) (by decide)
  have o4 : Ok 10 [(0, 4)] := ok_dec (by decide) (by decide) (by decide)
  have o5 : Ok 10 [(0, 8)] := ok_dec (by decide) (by decide) (by decide)
  have o6 : Ok 10 [(0, 4), (8, 2)] := ok_dec (by decide) (by decide) (by decide)
  have t1 : GenC Try.prog 9 [.obj 1 0, .p (.int 4)] ⟨mapB 1 0 2 3 10 [(0, 10)] [] [], [], 4⟩ (.agg true [.p (extP (0, 4)), .p (.bool true)]) ⟨mapB 1 4 5 3 10 [(4, 6)] [(0, 4)] [], [], 6⟩ :=
    take9s 1 0 2 3 4 10 (by constructor <;> omega) [(0, 10)] [] [] 4 0 (o1.nrm (by omega)) ((ok_nil (n := 10)).nrm (by omega)) (by omega) (by decide) (by decide) (by decide)
  have t2 : GenC Try.prog 9 [.obj 1 0, .p (.int 4)] ⟨mapB 1 4 5 3 10 [(4, 6)] [(0, 4)] [], [], 7⟩ (.agg true [.p (extP (4, 4)), .p (.bool true)]) ⟨mapB 1 7 8 3 10 [(8, 2)] [(0, 8)] [], [], 9⟩ :=
    take9s 1 4 5 3 7 10 (by constructor <;> omega) [(4, 6)] [(0, 4)] [] 4 0 (o2.nrm (by omega)) (o4.nrm (by omega)) (by omega) (by decide) (by decide) (by decide)
  have g3 : GenC Try.prog 16 [.obj 1 0, .p (.sl [.agg false [.int 0, .int 4]])] ⟨mapB 1 7 8 3 10 [(8, 2)] [(0, 8)] [], [], 10⟩ (.p (.bool true)) ⟨mapB 1 7 8 10 10 [(8, 2)] [(0, 8)] [(0, 4)], [], 11⟩ :=
    give16 1 7 8 3 10 10 (by constructor <;> omega) (by omega) [(8, 2)] [(0, 8)] [] o3 o5 ok_nil [(0, 4)] (by decide)
  have t4 : GenC Try.prog 9 [.obj 1 0, .p (.int 3)] ⟨mapB 1 7 8 10 10 [(8, 2)] [(0, 8)] [(0, 4)], [], 11⟩ (.agg true [.p (extP (0, 0)), .p (.bool false)]) ⟨mapB 1 7 8 10 10 [(8, 2)] [(0, 8)] [(0, 4)], [], 11⟩ :=
    take9n 1 7 8 10 11 10 (by constructor <;> omega) [(8, 2)] [(0, 8)] [(0, 4)] 3 (o3.nrm (by omega)) (.inr (by decide))
  have c5 : GenC Try.prog 15 [.obj 1 0] ⟨mapB 1 7 8 10 10 [(8, 2)] [(0, 8)] [(0, 4)], [], 12⟩ (.agg true []) ⟨mapB 1 12 13 14 10 [(0, 4), (8, 2)] [] [], [], 15⟩ :=
    commit15 1 7 8 10 12 10 (by constructor <;> omega) (by omega) [(8, 2)] [(0, 8)] [(0, 4)] o3 o4 (by rintro s ⟨e, h1, h2⟩ ⟨x, h3, h4⟩; simp at h1 h3; subst h1; subst h3; unfold inE at h2 h4; simp only at h2 h4; omega)
  have p6 : GenC Try.prog 11 [.obj 1 0, .p (.int 6), .p (.int 2)] ⟨mapB 1 12 13 14 10 [(0, 4), (8, 2)] [] [], [], 15⟩ (.agg true [.p (setP [(0, 4), (8, 2)]), .p (.bool true)]) ⟨mapB 1 15 16 14 10 [] [(0, 4), (8, 2)] [], [], 17⟩ :=
    pieces11 1 12 13 14 15 10 (by constructor <;> omega) (by omega) [(0, 4), (8, 2)] [] [] o6 ok_nil (by simp) 6 2
  have s7 : PureC Try.prog 13 [setP [(0, 4), (8, 2)], .sl [.agg false [.int 0, .int 4], .agg false [.int 8, .int 2]]] (.bool true) := same13 [(0, 4), (8, 2)] [(0, 4), (8, 2)] (by decide) (by decide)
  refine pure_of_aw (ys := [_]) [] [] [] mixed Try.func7 rfl (by kernel_rfl) (by kernel_rfl) (by simp [Try.ntmps7]) rfl ?_
  simp
  refine gcall_of0 (new8 0 10 (by omega) (by omega)) (by simp) (by simp [sub1]) trivial rfl ?_
  simp
  refine gcall_of0 t1 (by simp) (by simp [sub1, mapB, mapO, mapX]) trivial rfl ?_
  simp [mapB, mapO, mapX]
  refine gcall_of0 t2 (by simp) (by simp [sub1, mapB, mapO, mapX]) trivial rfl ?_
  simp [mapB, mapO, mapX]
  refine gcall_of0 g3 (by simp) (by simp [sub1, mapB, mapO, mapX]) trivial rfl ?_
  simp [mapB, mapO, mapX]
  refine gcall_of0 t4 (by simp) (by simp [sub1, mapB, mapO, mapX]) trivial rfl ?_
  simp [mapB, mapO, mapX]
  refine gcall_of0 c5 (by simp) (by simp [sub1, mapB, mapO, mapX]) trivial rfl ?_
  simp [mapB, mapO, mapX]
  refine gcall_of0 p6 (by simp) (by simp [sub1, mapB, mapO, mapX]) trivial rfl ?_
  simp [mapB, mapO, mapX]
  refine pcall_of s7 (by simp) ?_
  simp [Try.results7]

/-- what is free, and what was taken, when so many are taken from the front -/
def fstF (next : Nat) : List Ext := if next < 200 then [(next, 200 - next)] else []
def fstR (next : Nat) : List Ext := if next = 0 then [] else [(0, next)]
theorem fstF_ok {next : Nat} : Ok 200 (fstF next) := by
  unfold fstF; split
  · exact ok_dec (by simp; omega) (by simp) (by simp; omega)
  · exact ok_nil
theorem fstR_ok {next : Nat} (h : next ≤ 200) : Ok 200 (fstR next) := by
  unfold fstR; split
  · exact ok_nil
  · exact ok_dec (by simp; omega) (by simp) (by simp; omega)
theorem fst_step {next n : Nat} (h1 : 1 ≤ n) (h2 : next + n ≤ 200) : cutL (fstF next) (next, n) = fstF (next + n) ∧ putL (fstR next) (next, n) = fstR (next + n) := by
  have e0 : fstF next = [(next, 200 - next)] := by unfold fstF; rw [if_pos (by omega)]
  have ec : decide (next + (200 - next) ≤ next) = false := by simp; omega
  have ea : aft [(next, 200 - next)] next = 0 := by simp only [aft, List.takeWhile_cons, ec]; rfl
  constructor
  · rw [e0]
    unfold cutL
    simp only
    rw [ea]
    simp only [List.take_zero, List.getD_cons_zero, List.nil_append, List.drop_succ_cons, List.drop_zero, cutA, cutB, fstF]
    rw [if_neg (by omega)]
    by_cases c : next + n < 200
    · rw [if_pos (by omega), if_pos c]; simp; omega
    · rw [if_neg (by omega), if_neg c]; simp
  · unfold fstR
    by_cases c : next = 0
    · subst c; simp [show n ≠ 0 by omega, putL, aft, joinM, putM, putE, joinR]
    · have eb : aft [(0, next)] next = 1 := by simp [aft]
      have ej : joinR [(0, next)] (next, n) = false := by unfold joinR; simp only; rw [eb]; rfl
      rw [if_neg c, if_neg (by omega)]
      unfold putL putM putE
      rw [ej]
      simp only [Bool.false_eq_true, if_false]
      rw [eb]
      simp [joinM]
end Go.Av
