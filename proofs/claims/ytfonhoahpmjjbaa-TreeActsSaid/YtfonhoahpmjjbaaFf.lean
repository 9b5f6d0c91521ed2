/- What Delete computes. -/
import Derived.Test.YtfonhoahpmjjbaaFe
set_option linter.all false
/-! part W24 -/
namespace Go.Av
open Go.Proofs Go.Tre
set_option maxRecDepth 100000

set_option maxHeartbeats 4000000 in
theorem same38 (k q t s r w nx b : Nat) (h : Ids4 t s r w nx) (hq : IdsC k q t s r w nx) (S : Sto) (hS : SOkN b S) (hb : b ≤ 1000000000) (root : Int) (old : List Int) (st : Step) (hst : NdSm st.n) (hc : st.c < st.n.vs.length) (n : Nd) (hn : NdSm n) :
    GenC Try.prog 38 [.obj k 0, .p (stP st), .p (ndP n)] ⟨chB k q t s r w S root old, (q, 3, 1) :: stR r, nx⟩ (.agg true [.p (ndP (if (S.save n).2.2 = 0 then withL st.n st.c (S.save n).2.1 else nd0)), .p (.int (S.save n).2.2)])
      ⟨chB k q t s nx (nx + 1) (S.save n).1 root old, (q, 3, 1) :: stR nx, nx + 2⟩ := by
  have h' := h
  have hq' := hq
  obtain ⟨ht, ⟨hs, hr, hw, sr, sw, rw_⟩, ts, tr, tw⟩ := h
  obtain ⟨hk, hqn, kt, ks, kw, qr⟩ := hq
  have e_kt : ¬ k = t := by omega
  have e_tk : ¬ t = k := by omega
  have e_ks : ¬ k = s := by omega
  have e_sk : ¬ s = k := by omega
  have e_wk : ¬ w = k := by omega
  have e_ts : ¬ t = s := by omega
  have e_st : ¬ s = t := by omega
  have e_wt : ¬ w = t := by omega
  have e_ws : ¬ w = s := by omega
  have g_k0 : ¬ k = nx := by omega
  have f_k0 : ¬ nx = k := by omega
  have g_k1 : ¬ k = nx + 1 := by omega
  have l_k2 : k < nx + 2 := by omega
  have g_k2 : ¬ k = nx + 2 := by omega
  have g_t0 : ¬ t = nx := by omega
  have f_t0 : ¬ nx = t := by omega
  have g_t1 : ¬ t = nx + 1 := by omega
  have l_t2 : t < nx + 2 := by omega
  have g_t2 : ¬ t = nx + 2 := by omega
  have g_s0 : ¬ s = nx := by omega
  have f_s0 : ¬ nx = s := by omega
  have g_s1 : ¬ s = nx + 1 := by omega
  have l_s2 : s < nx + 2 := by omega
  have g_s2 : ¬ s = nx + 2 := by omega
  have f_s2 : ¬ nx + 2 = s := by omega
  have g_w0 : ¬ w = nx := by omega
  have e_rq : ¬ r = q := by omega
  have g_q0 : ¬ q = nx := by omega
  have g_q1 : ¬ q = nx + 1 := by omega
  have l_q2 : q < nx + 2 := by omega
  refine gen_of_aw (rs := [_, _]) [] [(1, [(3, .r 1), (6, .r 2), (8, .w [])])] [(1, k), (2, t)] mixed Try.func38 rfl (by kernel_rfl) (by kernel_rfl) (by simp [Try.ntmps38]) rfl ?_
  simp [trB, stB, stR, treO, stoO, thO, chB, chO, methS, e_tk, g_k0, g_t0]
  refine icall_of (save111 s r w (nx + 1) (h'.i3.up (by omega)) S (hS.ok (by omega)) n (by have := hn.ks; have := hn.vs; omega)) (by simp) (by simp [stoO, thO, sub1, e_sk, e_wk, e_st, e_wt, e_ws, g_s0, g_w0]) (by simp [sub1, e_rq]) rfl ?_
  generalize S.save n = sa at *
  obtain ⟨S1, p1, e1⟩ := sa
  simp only at ⊢
  by_cases c3 : e1 = 0
  · subst c3
    rw [if_pos rfl]
    simp [stB, stR, stoO, thO, e_sk, e_wk, e_st, e_wt, e_ws, g_s0, g_w0, e_rq]
    refine pcall_of (with59 st.n st.c p1 hst hc) (by simp) ?_
    simp [Try.results38, e_kt, e_ks, e_ts, f_k0, g_k1, l_k2, f_t0, g_t1, l_t2, f_s0, g_s1, l_s2, g_q0, l_q2]
    exact ⟨[(nx, nx + 1), (nx + 1, nx + 1 + 1)], by simp [e_kt, e_tk, e_ks, e_ts, g_k0, g_k1, g_k2, g_t0, g_t1, g_t2, g_s0, g_s1, g_s2, f_s2, g_q0, g_q1]; intro a b h; omega⟩
  · have c3' : (e1 != 0) = true := by simpa using c3
    rw [if_neg c3]
    simp [c3', stB, stR, stoO, thO, nd0, Try.results38, e_kt, e_ks, e_sk, e_wk, e_ts, e_st, e_wt, e_ws, f_k0, g_k1, l_k2, f_t0, g_t1, l_t2, g_s0, f_s0, g_s1, l_s2, g_w0, e_rq, g_q0, l_q2]
    exact ⟨[(nx, nx + 1), (nx + 1, nx + 1 + 1)], by simp [e_kt, e_tk, e_ks, e_ts, g_k0, g_k1, g_k2, g_t0, g_t1, g_t2, g_s0, g_s1, g_s2, f_s2, g_q0, g_q1]; intro a b h; omega⟩
set_option maxHeartbeats 4000000 in
theorem top39 (k q t s r w nx b : Nat) (h : Ids4 t s r w nx) (hq : IdsC k q t s r w nx) (S : Sto) (hS : SOkN b S) (hb : b + 1 ≤ 1000000000) (root : Int) (old : List Int) (ho : old.length ≤ 1000000000) (hp : ∀ p ∈ old, i64b p) (n : Nd) (hn : NdSm n) (hv : n.lf = false → 0 < n.vs.length) (R : Ret) (hR : R = topU root 0 ⟨S, old, n, 0⟩) :
    GenC Try.prog 39 [.obj k 0, .p (ndP n)] ⟨chB k q t s r w S root old, (q, 3, 1) :: stR r, nx⟩ (.p (.int R.e))
      ⟨chB k q t s nx (nx + 1) R.s R.root old, (q, 3, 1) :: stR nx, nx + 2⟩ := by
  have h' := h
  have hq' := hq
  obtain ⟨ht, ⟨hs, hr, hw, sr, sw, rw_⟩, ts, tr, tw⟩ := h
  obtain ⟨hk, hqn, kt, ks, kw, qr⟩ := hq
  have e_kt : ¬ k = t := by omega
  have e_tk : ¬ t = k := by omega
  have e_ks : ¬ k = s := by omega
  have e_sk : ¬ s = k := by omega
  have e_kw : ¬ k = w := by omega
  have e_wk : ¬ w = k := by omega
  have e_ts : ¬ t = s := by omega
  have e_st : ¬ s = t := by omega
  have e_tw : ¬ t = w := by omega
  have e_wt : ¬ w = t := by omega
  have e_sw : ¬ s = w := by omega
  have e_ws : ¬ w = s := by omega
  have g_k0 : ¬ k = nx := by omega
  have g_k1 : ¬ k = nx + 1 := by omega
  have f_k1 : ¬ nx + 1 = k := by omega
  have l_k2 : k < nx + 2 := by omega
  have g_t0 : ¬ t = nx := by omega
  have g_t1 : ¬ t = nx + 1 := by omega
  have f_t1 : ¬ nx + 1 = t := by omega
  have l_t2 : t < nx + 2 := by omega
  have g_s0 : ¬ s = nx := by omega
  have g_s1 : ¬ s = nx + 1 := by omega
  have f_s1 : ¬ nx + 1 = s := by omega
  have l_s2 : s < nx + 2 := by omega
  have e_qr : ¬ q = r := by omega
  have e_rq : ¬ r = q := by omega
  have g_q0 : ¬ q = nx := by omega
  have f_q0 : ¬ nx = q := by omega
  have g_q1 : ¬ q = nx + 1 := by omega
  have l_q2 : q < nx + 2 := by omega
  refine gen_of_aw (rs := [_]) [] [(7, [(3, .r 1), (6, .r 2), (8, .w [])])] [(1, k), (2, t)] mixed Try.func39 rfl (by kernel_rfl) (by kernel_rfl) (by simp [Try.ntmps39]) rfl ?_
  have hk1 := hn.ks
  by_cases c1 : n.ks.length = 0
  · have c1' : n.ks = [] := List.length_eq_zero_iff.1 c1
    by_cases c2 : n.lf = true
    · have e : R = ⟨dropAll S old, 0, 0, true, 0⟩ := by rw [hR]; unfold topU; simp [c1', c2]
      rw [e]
      simp [c1', c2, trB, stB, stR, treO, stoO, thO, chB, chO]
      refine gcall_of0 (done60 k q t s r w nx b (h'.up (by omega)) (hq'.up (by omega)) S hS (by omega) root 0 old ho hp) (by simp) (by simp [chO, treO, stoO, thO, sub1, e_tk, e_sk, e_wk, e_st, e_wt, e_ws]) (by simp [sub1, e_rq]) rfl ?_
      simp [trB, stB, stR, treO, stoO, thO, chB, chO, Try.results39, e_kt, e_tk, e_ks, e_sk, e_wk, e_ts, e_st, e_wt, e_ws, g_k1, l_k2, g_t1, l_t2, g_s1, l_s2, e_rq, g_q0, l_q2]
      exact ⟨[(nx, r), (nx + 1, w)], by simp [e_kt, e_tk, e_ks, e_sk, e_kw, e_wk, e_ts, e_st, e_tw, e_wt, e_sw, e_ws, g_k0, g_k1, g_t0, g_t1, g_s0, g_s1, e_qr, e_rq, g_q0, g_q1]; intro a b h; omega⟩
    · have c2' : n.lf = false := by simpa using c2
      have hv' := hv c2'
      have e : R = ⟨dropAll S old, n.vs[0], 0, true, 0⟩ := by rw [hR]; unfold topU; simp [c1', c2', List.getD_eq_getElem?_getD, List.getElem?_eq_getElem hv']
      rw [e]
      simp [c1', c2', hv', trB, stB, stR, treO, stoO, thO, chB, chO]
      refine gcall_of0 (done60 k q t s r w nx b (h'.up (by omega)) (hq'.up (by omega)) S hS (by omega) root n.vs[0] old ho hp) (by simp) (by simp [chO, treO, stoO, thO, sub1, e_tk, e_sk, e_wk, e_st, e_wt, e_ws]) (by simp [sub1, e_rq]) rfl ?_
      simp [trB, stB, stR, treO, stoO, thO, chB, chO, Try.results39, e_kt, e_tk, e_ks, e_sk, e_wk, e_ts, e_st, e_wt, e_ws, g_k1, l_k2, g_t1, l_t2, g_s1, l_s2, e_rq, g_q0, l_q2]
      exact ⟨[(nx, r), (nx + 1, w)], by simp [e_kt, e_tk, e_ks, e_sk, e_kw, e_wk, e_ts, e_st, e_tw, e_wt, e_sw, e_ws, g_k0, g_k1, g_t0, g_t1, g_s0, g_s1, e_qr, e_rq, g_q0, g_q1]; intro a b h; omega⟩
  · have c1' : ((n.ks.length : Int) == 0) = false := by simp; intro hz; rw [hz] at c1; simp at c1
    have hR2 : R = if (S.save n).2.2 = 0 then ⟨dropAll (S.save n).1 old, (S.save n).2.1, 0, true, 0⟩ else ⟨(S.save n).1, root, 0, false, (S.save n).2.2⟩ := by rw [hR]; unfold topU; simp [c1]
    have c1n : n.ks ≠ [] := fun hz => c1 (by rw [hz]; rfl)
    rcases Bool.eq_false_or_eq_true n.lf with hl | hl
    · simp [hl, c1', trB, stB, stR, treO, stoO, thO, chB, chO, methS, e_tk]
      refine icall_of (save111 s r w nx (h'.i3.up (by omega)) S (hS.ok (by omega)) n (by have := hn.ks; have := hn.vs; omega)) (by simp) (by simp [stoO, thO, sub1, e_sk, e_wk, e_st, e_wt, e_ws]) (by simp [sub1, e_rq]) rfl ?_
      have hS1 := hS.save hn
      have hi := save_i64 hS (by omega) n
      generalize S.save n = sa at *
      obtain ⟨S1, p1, e1⟩ := sa
      simp only at hR2 hS1 hi ⊢
      by_cases c3 : e1 = 0
      · subst c3
        rw [if_pos rfl] at hR2
        rw [hR2]
        simp [stB, stR, stoO, thO, e_sk, e_wk, e_st, e_wt, e_ws, e_rq]
        refine gcall_of0 (done60 k q t s nx (nx + 1) (nx + 2) (b + 1) ⟨by omega, ⟨by omega, by omega, by omega, by omega, by omega, by omega⟩, by omega, by omega, by omega⟩ ⟨by omega, by omega, by omega, by omega, by omega, by omega⟩ S1 hS1 (by omega) root p1 old ho hp) (by simp) (by simp [chO, treO, stoO, thO, sub1, e_tk, e_ks, e_ts, g_k1, g_t1, f_s1]) (by simp [sub1, g_q0]) rfl ?_
        simp [trB, stB, stR, treO, stoO, thO, chB, chO, Try.results39, e_kt, e_tk, e_ks, e_sk, e_ts, e_st, g_k1, f_k1, l_k2, g_t1, f_t1, l_t2, g_s1, f_s1, l_s2, g_q0, f_q0, l_q2]
        exact ⟨[], by simp [e_kt, e_tk, e_ks, e_sk, e_ts, e_st, g_k1, f_k1, g_t1, f_t1, g_s1, f_s1, g_q0, f_q0]⟩
      · have c3' : (e1 == 0) = false := by simpa using c3
        rw [if_neg c3] at hR2
        rw [hR2]
        simp [c3', stB, stR, stoO, thO, Try.results39, e_kt, e_ks, e_sk, e_wk, e_ts, e_st, e_wt, e_ws, g_k1, l_k2, g_t1, l_t2, g_s1, l_s2, e_rq, g_q0, l_q2]
        exact ⟨[], by simp [e_kt, e_tk, e_ks, e_ts, g_k1, g_t1, g_s1, f_s1, g_q0]⟩
    · simp [hl, c1', trB, stB, stR, treO, stoO, thO, chB, chO, methS, e_tk]
      refine icall_of (save111 s r w nx (h'.i3.up (by omega)) S (hS.ok (by omega)) n (by have := hn.ks; have := hn.vs; omega)) (by simp) (by simp [stoO, thO, sub1, e_sk, e_wk, e_st, e_wt, e_ws]) (by simp [sub1, e_rq]) rfl ?_
      have hS1 := hS.save hn
      have hi := save_i64 hS (by omega) n
      generalize S.save n = sa at *
      obtain ⟨S1, p1, e1⟩ := sa
      simp only at hR2 hS1 hi ⊢
      by_cases c3 : e1 = 0
      · subst c3
        rw [if_pos rfl] at hR2
        rw [hR2]
        simp [stB, stR, stoO, thO, e_sk, e_wk, e_st, e_wt, e_ws, e_rq]
        refine gcall_of0 (done60 k q t s nx (nx + 1) (nx + 2) (b + 1) ⟨by omega, ⟨by omega, by omega, by omega, by omega, by omega, by omega⟩, by omega, by omega, by omega⟩ ⟨by omega, by omega, by omega, by omega, by omega, by omega⟩ S1 hS1 (by omega) root p1 old ho hp) (by simp) (by simp [chO, treO, stoO, thO, sub1, e_tk, e_ks, e_ts, g_k1, g_t1, f_s1]) (by simp [sub1, g_q0]) rfl ?_
        simp [trB, stB, stR, treO, stoO, thO, chB, chO, Try.results39, e_kt, e_tk, e_ks, e_sk, e_ts, e_st, g_k1, f_k1, l_k2, g_t1, f_t1, l_t2, g_s1, f_s1, l_s2, g_q0, f_q0, l_q2]
        exact ⟨[], by simp [e_kt, e_tk, e_ks, e_sk, e_ts, e_st, g_k1, f_k1, g_t1, f_t1, g_s1, f_s1, g_q0, f_q0]⟩
      · have c3' : (e1 == 0) = false := by simpa using c3
        rw [if_neg c3] at hR2
        rw [hR2]
        simp [c3', stB, stR, stoO, thO, Try.results39, e_kt, e_ks, e_sk, e_wk, e_ts, e_st, e_wt, e_ws, g_k1, l_k2, g_t1, l_t2, g_s1, l_s2, e_rq, g_q0, l_q2]
        exact ⟨[], by simp [e_kt, e_tk, e_ks, e_ts, g_k1, g_t1, g_s1, f_s1, g_q0]⟩
end Go.Av

/-! part W25 -/
namespace Go.Av
open Go.Proofs Go.Tre
set_option maxRecDepth 100000
def bsE (S : Sto) (st : Step) (m : Nd) : Int := if (tload S (st.n.vs.getD (nbI st.c) 0)).2 = 0 then (if (tload S (st.n.vs.getD (nbI st.c) 0)).1.lf = m.lf then 0 else 10) else (tload S (st.n.vs.getD (nbI st.c) 0)).2
@[reducible] def jnP (i : Nat) (a b : Nd) : PC := .agg false [.int i, .bool a.lf, .sl (a.ks.map PC.str), .sl (a.vs.map PC.int), .bool b.lf, .sl (b.ks.map PC.str), .sl (b.vs.map PC.int)]
def bsP (S : Sto) (st : Step) (m : Nd) : PC := if bsE S st m = 0 then (if st.c = 0 then jnP (nbK st.c) m (tload S (st.n.vs.getD (nbI st.c) 0)).1 else jnP (nbK st.c) (tload S (st.n.vs.getD (nbI st.c) 0)).1 m) else jnP 0 nd0 nd0
def bsO (S : Sto) (st : Step) (m : Nd) (old : List Int) : List Int := if bsE S st m = 0 then old ++ [st.n.vs.getD (nbI st.c) 0] else old

set_option maxHeartbeats 4000000 in
theorem beside61 (k q t s r w nx b : Nat) (h : Ids4 t s r w nx) (hq : IdsC k q t s r w nx) (S : Sto) (hS : SOkN b S) (hb : b ≤ 1000000000) (root : Int) (old : List Int) (ho : old.length ≤ 1000000000) (st : Step) (hi : nbI st.c < st.n.vs.length) (hc : st.c ≤ 1000) (hp : i64b st.n.vs[nbI st.c]) (m : Nd) :
    GenC Try.prog 61 [.obj k 0, .p (stP st), .p (ndP m)] ⟨chB k q t s r w S root old, (q, 3, 1) :: stR r, nx⟩ (.agg true [.p (bsP S st m), .p (.int (bsE S st m))])
      ⟨chB k nx t s r w S root (bsO S st m old), (nx, 3, 1) :: stR r, nx + 1⟩ := by
  have h' := h
  have hq' := hq
  obtain ⟨ht, ⟨hs, hr, hw, sr, sw, rw_⟩, ts, tr, tw⟩ := h
  obtain ⟨hk, hqn, kt, ks, kw, qr⟩ := hq
  have e_kt : ¬ k = t := by omega
  have e_tk : ¬ t = k := by omega
  have e_ks : ¬ k = s := by omega
  have e_sk : ¬ s = k := by omega
  have e_kw : ¬ k = w := by omega
  have e_wk : ¬ w = k := by omega
  have e_ts : ¬ t = s := by omega
  have e_st : ¬ s = t := by omega
  have e_tw : ¬ t = w := by omega
  have e_wt : ¬ w = t := by omega
  have e_sw : ¬ s = w := by omega
  have e_ws : ¬ w = s := by omega
  have g_k0 : ¬ k = nx := by omega
  have f_k0 : ¬ nx = k := by omega
  have l_k1 : k < nx + 1 := by omega
  have g_k1 : ¬ k = nx + 1 := by omega
  have f_k1 : ¬ nx + 1 = k := by omega
  have g_t0 : ¬ t = nx := by omega
  have f_t0 : ¬ nx = t := by omega
  have l_t1 : t < nx + 1 := by omega
  have g_t1 : ¬ t = nx + 1 := by omega
  have f_t1 : ¬ nx + 1 = t := by omega
  have g_s0 : ¬ s = nx := by omega
  have f_s0 : ¬ nx = s := by omega
  have l_s1 : s < nx + 1 := by omega
  have g_s1 : ¬ s = nx + 1 := by omega
  have f_s1 : ¬ nx + 1 = s := by omega
  have g_w0 : ¬ w = nx := by omega
  have f_w0 : ¬ nx = w := by omega
  have l_w1 : w < nx + 1 := by omega
  have g_w1 : ¬ w = nx + 1 := by omega
  have f_w1 : ¬ nx + 1 = w := by omega
  have e_qr : ¬ q = r := by omega
  have e_rq : ¬ r = q := by omega
  have g_r0 : ¬ r = nx := by omega
  have f_r0 : ¬ nx = r := by omega
  have l_r1 : r < nx + 1 := by omega
  have g_r2 : ¬ r = nx + 2 := by omega
  have f_r2 : ¬ nx + 2 = r := by omega
  refine gen_of_awT (rs := [_, _]) [] [(9, [(4, .r 1), (12, .f [1]), (15, .s 1 [])])] [(1, k)] [(4, (.one 0 (.one 1 (.one 2 (.one 4 (.one 5 (.one 6 (.one 7 (.one 8 (.one 9 (.br 3 (.br 10 (.one 11 (.one 12 (.one 13 (.br 14 (.br 15 (.one 16 .lf) .lf) .lf)))) (.br 14 (.br 10 (.one 11 (.one 12 (.one 13 (.br 15 (.one 16 .lf) .lf)))) .lf) .lf)) (.br 14 (.br 3 (.br 10 (.one 11 (.one 12 (.one 13 (.br 15 (.one 16 .lf) .lf)))) .lf) .lf) .lf))))))))))))] mixed Try.func61 rfl (by kernel_rfl) (by kernel_rfl) (by simp [Try.ntmps61]) rfl ?_
  have hgd : st.n.vs.getD (nbI st.c) 0 = st.n.vs[nbI st.c] := by rw [List.getD_eq_getElem?_getD, List.getElem?_eq_getElem hi]; rfl
  obtain ⟨E, hE⟩ : ∃ E, E = bsE S st m := ⟨_, rfl⟩
  obtain ⟨P, hP⟩ : ∃ P, P = bsP S st m := ⟨_, rfl⟩
  obtain ⟨O, hO⟩ : ∃ O, O = bsO S st m old := ⟨_, rfl⟩
  rw [← hE, ← hP, ← hO]
  unfold bsP at hP
  unfold bsO at hO
  rw [← hE] at hP hO
  unfold bsE at hE
  obtain ⟨⟨nl, nk, nv⟩, p, c⟩ := st
  replace hi : nbI c < nv.length := hi
  replace hc : c ≤ 1000 := hc
  replace hp : i64b nv[nbI c] := hp
  replace hgd : nv.getD (nbI c) 0 = nv[nbI c] := hgd
  simp only at hE hP hO
  cases c with
  | zero =>
    have e1 : nbI 0 = 1 := rfl
    have e2 : nbK 0 = 0 := rfl
    have w1 : IntKind.i64.wrap (0 - 1) = -1 := by decide
    have w2 : IntKind.i64.wrap (-1) = -1 := by decide
    simp only [e1, e2] at hi hp hgd hE hP hO
    simp [w2, hi, trB, stB, stR, treO, stoO, thO, chB, chO, g_k0, g_k1]
    refine ⟨⟨?_, ?_⟩, ?_⟩
    · refine gcall_of0 (load46 t s r w (nx + 1) (h'.up (by omega)) S (hS.ok (by omega)) root nv[1] hp) (by simp) (by simp [treO, stoO, thO, sub1, e_tk, e_sk, e_wk, e_st, e_wt, e_ws, g_t0, g_s0, g_w0]) (by simp [sub1, e_rq]) rfl ?_
      simp only [hgd] at hE hP hO
      generalize tload S nv[1] = tt at *
      obtain ⟨tn, te⟩ := tt
      simp only at hE hP hO ⊢
      by_cases c1 : te = 0
      · subst c1
        rw [if_pos rfl] at hE
        by_cases c2 : tn.lf = m.lf
        · rw [if_pos c2] at hE
          rw [hE] at hP hO ⊢
          simp only [if_true] at hP hO
          rw [hP, hO]
          have c2' : (tn.lf != m.lf) = false := by simp [c2]
          simp [c2', hi, trB, stB, stR, treO, stoO, thO, Try.results61, e_kt, e_tk, e_ks, e_sk, e_kw, e_wk, e_ts, e_st, e_tw, e_wt, e_sw, e_ws, g_k0, f_k0, l_k1, g_k1, f_k1, g_t0, f_t0, l_t1, f_t1, g_s0, f_s0, l_s1, f_s1, g_w0, f_w0, l_w1, f_w1, e_qr, e_rq, f_r0, l_r1]
          exact ⟨by omega, by omega, [(nx, nx + 2)], by simp [e_kt, e_tk, e_ks, e_sk, e_kw, e_wk, e_ts, e_st, e_tw, e_wt, e_sw, e_ws, g_k0, g_t0, g_t1, g_s0, g_s1, g_w0, g_w1, g_r0, g_r2, f_r2]; try (intro a b h; omega)⟩
        · rw [if_neg c2] at hE
          rw [hE] at hP hO ⊢
          have e10 : ¬ (10 : Int) = 0 := by decide
          rw [if_neg e10] at hP hO
          rw [hP, hO]
          have c2' : (tn.lf != m.lf) = true := by simpa using c2
          simp [c2', trB, stB, stR, treO, stoO, thO, nd0, Try.results61, e_kt, e_tk, e_ks, e_sk, e_kw, e_wk, e_ts, e_st, e_tw, e_wt, e_sw, e_ws, f_k0, l_k1, f_k1, g_t0, f_t0, l_t1, f_t1, g_s0, f_s0, l_s1, f_s1, g_w0, f_w0, l_w1, f_w1, e_rq, f_r0, l_r1]
          exact ⟨[(nx, q)], by simp [e_kt, e_ks, e_kw, e_ts, e_st, e_tw, e_wt, e_sw, e_ws, g_k0, g_k1, g_t0, g_t1, g_s0, g_s1, g_w0, g_w1, e_qr, g_r0]⟩
      · rw [if_neg c1] at hE
        rw [hE] at hP hO ⊢
        rw [if_neg c1] at hP hO
        rw [hP, hO]
        have c1' : (te == 0) = false := by simpa using c1
        have c1'' : (te != 0) = true := by simpa using c1
        simp [c1', c1'', trB, stB, stR, treO, stoO, thO, nd0, Try.results61, e_kt, e_tk, e_ks, e_sk, e_kw, e_wk, e_ts, e_st, e_tw, e_wt, e_sw, e_ws, f_k0, l_k1, f_k1, g_t0, f_t0, l_t1, f_t1, g_s0, f_s0, l_s1, f_s1, g_w0, f_w0, l_w1, f_w1, e_rq, f_r0, l_r1]
        exact ⟨[(nx, q)], by simp [e_kt, e_ks, e_kw, e_ts, e_st, e_tw, e_wt, e_sw, e_ws, g_k0, g_k1, g_t0, g_t1, g_s0, g_s1, g_w0, g_w1, e_qr, g_r0]⟩
    all_goals (refine gcall_of0 (load46 t s r w (nx + 2) (h'.up (by omega)) S (hS.ok (by omega)) root nv[1] hp) (by simp) (by simp [treO, stoO, thO, sub1, e_tk, e_sk, e_wk, e_st, e_wt, e_ws, g_t0, g_t1, g_s0, g_s1, g_w0, g_w1]) (by simp [sub1, e_rq]) rfl ?_)
    · simp only [hgd] at hE hP hO
      generalize tload S nv[1] = tt at *
      obtain ⟨tn, te⟩ := tt
      simp only at hE hP hO ⊢
      by_cases c1 : te = 0
      · subst c1
        rw [if_pos rfl] at hE
        by_cases c2 : tn.lf = m.lf
        · rw [if_pos c2] at hE
          rw [hE] at hP hO ⊢
          simp only [if_true] at hP hO
          rw [hP, hO]
          have c2' : (tn.lf != m.lf) = false := by simp [c2]
          simp [c2', hi, trB, stB, stR, treO, stoO, thO, Try.results61, e_kt, e_tk, e_ks, e_sk, e_kw, e_wk, e_ts, e_st, e_tw, e_wt, e_sw, e_ws, g_k0, f_k0, l_k1, g_k1, f_k1, g_t0, f_t0, l_t1, g_t1, f_t1, g_s0, f_s0, l_s1, g_s1, f_s1, g_w0, f_w0, l_w1, g_w1, f_w1, e_qr, e_rq, f_r0, l_r1]
          exact ⟨by omega, by omega, [(nx, nx + 2)], by simp [e_kt, e_tk, e_ks, e_sk, e_kw, e_wk, e_ts, e_st, e_tw, e_wt, e_sw, e_ws, g_k0, g_t0, g_t1, g_s0, g_s1, g_w0, g_w1, g_r0, g_r2, f_r2]; try (intro a b h; omega)⟩
        · rw [if_neg c2] at hE
          rw [hE] at hP hO ⊢
          have e10 : ¬ (10 : Int) = 0 := by decide
          rw [if_neg e10] at hP hO
          rw [hP, hO]
          have c2' : (tn.lf != m.lf) = true := by simpa using c2
          simp [c2', trB, stB, stR, treO, stoO, thO, nd0, Try.results61, e_kt, e_tk, e_ks, e_sk, e_kw, e_wk, e_ts, e_st, e_tw, e_wt, e_sw, e_ws, f_k0, l_k1, f_k1, g_t0, f_t0, l_t1, g_t1, f_t1, g_s0, f_s0, l_s1, g_s1, f_s1, g_w0, f_w0, l_w1, g_w1, f_w1, e_rq, f_r0, l_r1]
          exact ⟨[(nx, q)], by simp [e_kt, e_ks, e_kw, e_ts, e_st, e_tw, e_wt, e_sw, e_ws, g_k0, g_k1, g_t0, g_t1, g_s0, g_s1, g_w0, g_w1, e_qr, g_r0]⟩
      · rw [if_neg c1] at hE
        rw [hE] at hP hO ⊢
        rw [if_neg c1] at hP hO
        rw [hP, hO]
        have c1' : (te == 0) = false := by simpa using c1
        have c1'' : (te != 0) = true := by simpa using c1
        simp [c1', c1'', trB, stB, stR, treO, stoO, thO, nd0, Try.results61, e_kt, e_tk, e_ks, e_sk, e_kw, e_wk, e_ts, e_st, e_tw, e_wt, e_sw, e_ws, f_k0, l_k1, f_k1, g_t0, f_t0, l_t1, g_t1, f_t1, g_s0, f_s0, l_s1, g_s1, f_s1, g_w0, f_w0, l_w1, g_w1, f_w1, e_rq, f_r0, l_r1]
        exact ⟨[(nx, q)], by simp [e_kt, e_ks, e_kw, e_ts, e_st, e_tw, e_wt, e_sw, e_ws, g_k0, g_k1, g_t0, g_t1, g_s0, g_s1, g_w0, g_w1, e_qr, g_r0]⟩
    · simp only [hgd] at hE hP hO
      generalize tload S nv[1] = tt at *
      obtain ⟨tn, te⟩ := tt
      simp only at hE hP hO ⊢
      by_cases c1 : te = 0
      · subst c1
        rw [if_pos rfl] at hE
        by_cases c2 : tn.lf = m.lf
        · rw [if_pos c2] at hE
          rw [hE] at hP hO ⊢
          simp only [if_true] at hP hO
          rw [hP, hO]
          have c2' : (tn.lf != m.lf) = false := by simp [c2]
          simp [c2', hi, trB, stB, stR, treO, stoO, thO, Try.results61, e_kt, e_tk, e_ks, e_sk, e_kw, e_wk, e_ts, e_st, e_tw, e_wt, e_sw, e_ws, g_k0, f_k0, l_k1, g_k1, f_k1, g_t0, f_t0, l_t1, g_t1, f_t1, g_s0, f_s0, l_s1, g_s1, f_s1, g_w0, f_w0, l_w1, g_w1, f_w1, e_qr, e_rq, f_r0, l_r1]
          exact ⟨by omega, by omega, [(nx, nx + 2)], by simp [e_kt, e_tk, e_ks, e_sk, e_kw, e_wk, e_ts, e_st, e_tw, e_wt, e_sw, e_ws, g_k0, g_t0, g_t1, g_s0, g_s1, g_w0, g_w1, g_r0, g_r2, f_r2]; try (intro a b h; omega)⟩
        · rw [if_neg c2] at hE
          rw [hE] at hP hO ⊢
          have e10 : ¬ (10 : Int) = 0 := by decide
          rw [if_neg e10] at hP hO
          rw [hP, hO]
          have c2' : (tn.lf != m.lf) = true := by simpa using c2
          simp [c2', trB, stB, stR, treO, stoO, thO, nd0, Try.results61, e_kt, e_tk, e_ks, e_sk, e_kw, e_wk, e_ts, e_st, e_tw, e_wt, e_sw, e_ws, f_k0, l_k1, f_k1, g_t0, f_t0, l_t1, g_t1, f_t1, g_s0, f_s0, l_s1, g_s1, f_s1, g_w0, f_w0, l_w1, g_w1, f_w1, e_rq, f_r0, l_r1]
          exact ⟨[(nx, q)], by simp [e_kt, e_ks, e_kw, e_ts, e_st, e_tw, e_wt, e_sw, e_ws, g_k0, g_k1, g_t0, g_t1, g_s0, g_s1, g_w0, g_w1, e_qr, g_r0]⟩
      · rw [if_neg c1] at hE
        rw [hE] at hP hO ⊢
        rw [if_neg c1] at hP hO
        rw [hP, hO]
        have c1' : (te == 0) = false := by simpa using c1
        have c1'' : (te != 0) = true := by simpa using c1
        simp [c1', c1'', trB, stB, stR, treO, stoO, thO, nd0, Try.results61, e_kt, e_tk, e_ks, e_sk, e_kw, e_wk, e_ts, e_st, e_tw, e_wt, e_sw, e_ws, f_k0, l_k1, f_k1, g_t0, f_t0, l_t1, g_t1, f_t1, g_s0, f_s0, l_s1, g_s1, f_s1, g_w0, f_w0, l_w1, g_w1, f_w1, e_rq, f_r0, l_r1]
        exact ⟨[(nx, q)], by simp [e_kt, e_ks, e_kw, e_ts, e_st, e_tw, e_wt, e_sw, e_ws, g_k0, g_k1, g_t0, g_t1, g_s0, g_s1, g_w0, g_w1, e_qr, g_r0]⟩
  | succ c =>
    have e1 : nbI (c + 1) = c := rfl
    have e2 : nbK (c + 1) = c := rfl
    have w1 : IntKind.i64.wrap (((c + 1 : Nat) : Int) - 1) = (c : Int) := by rw [wrap64_id (by omega) (by omega)]; omega
    have w2 : IntKind.i64.wrap (c : Int) = (c : Int) := wrap64_id (by omega) (by omega)
    have w3 : ¬ ((c : Int) < 0) := by omega
    have w4 : (c : Int) < (c : Int) + 1 := by omega
    have w5 : ¬ (c + 1 = 0) := by omega
    simp only [e1, e2, w5, if_false] at hi hp hgd hE hP hO
    simp [w2, w3, hi, trB, stB, stR, treO, stoO, thO, chB, chO, g_k0, g_k1]
    refine ⟨⟨?_, ?_⟩, ?_⟩
    · refine gcall_of0 (load46 t s r w (nx + 1) (h'.up (by omega)) S (hS.ok (by omega)) root nv[c] hp) (by simp) (by simp [treO, stoO, thO, sub1, e_tk, e_sk, e_wk, e_st, e_wt, e_ws, g_t0, g_s0, g_w0]) (by simp [sub1, e_rq]) rfl ?_
      simp only [hgd] at hE hP hO
      generalize tload S nv[c] = tt at *
      obtain ⟨tn, te⟩ := tt
      simp only at hE hP hO ⊢
      by_cases c1 : te = 0
      · subst c1
        rw [if_pos rfl] at hE
        by_cases c2 : tn.lf = m.lf
        · rw [if_pos c2] at hE
          rw [hE] at hP hO ⊢
          simp only [if_true] at hP hO
          rw [hP, hO]
          have c2' : (tn.lf != m.lf) = false := by simp [c2]
          simp [c2', hi, w4, trB, stB, stR, treO, stoO, thO, Try.results61, e_kt, e_tk, e_ks, e_sk, e_kw, e_wk, e_ts, e_st, e_tw, e_wt, e_sw, e_ws, g_k0, f_k0, l_k1, g_k1, f_k1, g_t0, f_t0, l_t1, f_t1, g_s0, f_s0, l_s1, f_s1, g_w0, f_w0, l_w1, f_w1, e_qr, e_rq, f_r0, l_r1]
          exact ⟨by omega, by omega, [(nx, nx + 2)], by simp [e_kt, e_tk, e_ks, e_sk, e_kw, e_wk, e_ts, e_st, e_tw, e_wt, e_sw, e_ws, g_k0, g_t0, g_t1, g_s0, g_s1, g_w0, g_w1, g_r0, g_r2, f_r2]; try (intro a b h; omega)⟩
        · rw [if_neg c2] at hE
          rw [hE] at hP hO ⊢
          have e10 : ¬ (10 : Int) = 0 := by decide
          rw [if_neg e10] at hP hO
          rw [hP, hO]
          have c2' : (tn.lf != m.lf) = true := by simpa using c2
          simp [c2', trB, stB, stR, treO, stoO, thO, nd0, Try.results61, e_kt, e_tk, e_ks, e_sk, e_kw, e_wk, e_ts, e_st, e_tw, e_wt, e_sw, e_ws, f_k0, l_k1, f_k1, g_t0, f_t0, l_t1, f_t1, g_s0, f_s0, l_s1, f_s1, g_w0, f_w0, l_w1, f_w1, e_rq, f_r0, l_r1]
          exact ⟨[(nx, q)], by simp [e_kt, e_ks, e_kw, e_ts, e_st, e_tw, e_wt, e_sw, e_ws, g_k0, g_k1, g_t0, g_t1, g_s0, g_s1, g_w0, g_w1, e_qr, g_r0]⟩
      · rw [if_neg c1] at hE
        rw [hE] at hP hO ⊢
        rw [if_neg c1] at hP hO
        rw [hP, hO]
        have c1' : (te == 0) = false := by simpa using c1
        have c1'' : (te != 0) = true := by simpa using c1
        simp [c1', c1'', trB, stB, stR, treO, stoO, thO, nd0, Try.results61, e_kt, e_tk, e_ks, e_sk, e_kw, e_wk, e_ts, e_st, e_tw, e_wt, e_sw, e_ws, f_k0, l_k1, f_k1, g_t0, f_t0, l_t1, f_t1, g_s0, f_s0, l_s1, f_s1, g_w0, f_w0, l_w1, f_w1, e_rq, f_r0, l_r1]
        exact ⟨[(nx, q)], by simp [e_kt, e_ks, e_kw, e_ts, e_st, e_tw, e_wt, e_sw, e_ws, g_k0, g_k1, g_t0, g_t1, g_s0, g_s1, g_w0, g_w1, e_qr, g_r0]⟩
    all_goals (refine gcall_of0 (load46 t s r w (nx + 2) (h'.up (by omega)) S (hS.ok (by omega)) root nv[c] hp) (by simp) (by simp [treO, stoO, thO, sub1, e_tk, e_sk, e_wk, e_st, e_wt, e_ws, g_t0, g_t1, g_s0, g_s1, g_w0, g_w1]) (by simp [sub1, e_rq]) rfl ?_)
    · simp only [hgd] at hE hP hO
      generalize tload S nv[c] = tt at *
      obtain ⟨tn, te⟩ := tt
      simp only at hE hP hO ⊢
      by_cases c1 : te = 0
      · subst c1
        rw [if_pos rfl] at hE
        by_cases c2 : tn.lf = m.lf
        · rw [if_pos c2] at hE
          rw [hE] at hP hO ⊢
          simp only [if_true] at hP hO
          rw [hP, hO]
          have c2' : (tn.lf != m.lf) = false := by simp [c2]
          simp [c2', hi, w4, trB, stB, stR, treO, stoO, thO, Try.results61, e_kt, e_tk, e_ks, e_sk, e_kw, e_wk, e_ts, e_st, e_tw, e_wt, e_sw, e_ws, g_k0, f_k0, l_k1, g_k1, f_k1, g_t0, f_t0, l_t1, g_t1, f_t1, g_s0, f_s0, l_s1, g_s1, f_s1, g_w0, f_w0, l_w1, g_w1, f_w1, e_qr, e_rq, f_r0, l_r1]
          exact ⟨by omega, by omega, [(nx, nx + 2)], by simp [e_kt, e_tk, e_ks, e_sk, e_kw, e_wk, e_ts, e_st, e_tw, e_wt, e_sw, e_ws, g_k0, g_t0, g_t1, g_s0, g_s1, g_w0, g_w1, g_r0, g_r2, f_r2]; try (intro a b h; omega)⟩
        · rw [if_neg c2] at hE
          rw [hE] at hP hO ⊢
          have e10 : ¬ (10 : Int) = 0 := by decide
          rw [if_neg e10] at hP hO
          rw [hP, hO]
          have c2' : (tn.lf != m.lf) = true := by simpa using c2
          simp [c2', trB, stB, stR, treO, stoO, thO, nd0, Try.results61, e_kt, e_tk, e_ks, e_sk, e_kw, e_wk, e_ts, e_st, e_tw, e_wt, e_sw, e_ws, f_k0, l_k1, f_k1, g_t0, f_t0, l_t1, g_t1, f_t1, g_s0, f_s0, l_s1, g_s1, f_s1, g_w0, f_w0, l_w1, g_w1, f_w1, e_rq, f_r0, l_r1]
          exact ⟨[(nx, q)], by simp [e_kt, e_ks, e_kw, e_ts, e_st, e_tw, e_wt, e_sw, e_ws, g_k0, g_k1, g_t0, g_t1, g_s0, g_s1, g_w0, g_w1, e_qr, g_r0]⟩
      · rw [if_neg c1] at hE
        rw [hE] at hP hO ⊢
        rw [if_neg c1] at hP hO
        rw [hP, hO]
        have c1' : (te == 0) = false := by simpa using c1
        have c1'' : (te != 0) = true := by simpa using c1
        simp [c1', c1'', trB, stB, stR, treO, stoO, thO, nd0, Try.results61, e_kt, e_tk, e_ks, e_sk, e_kw, e_wk, e_ts, e_st, e_tw, e_wt, e_sw, e_ws, f_k0, l_k1, f_k1, g_t0, f_t0, l_t1, g_t1, f_t1, g_s0, f_s0, l_s1, g_s1, f_s1, g_w0, f_w0, l_w1, g_w1, f_w1, e_rq, f_r0, l_r1]
        exact ⟨[(nx, q)], by simp [e_kt, e_ks, e_kw, e_ts, e_st, e_tw, e_wt, e_sw, e_ws, g_k0, g_k1, g_t0, g_t1, g_s0, g_s1, g_w0, g_w1, e_qr, g_r0]⟩
    · simp only [hgd] at hE hP hO
      generalize tload S nv[c] = tt at *
      obtain ⟨tn, te⟩ := tt
      simp only at hE hP hO ⊢
      by_cases c1 : te = 0
      · subst c1
        rw [if_pos rfl] at hE
        by_cases c2 : tn.lf = m.lf
        · rw [if_pos c2] at hE
          rw [hE] at hP hO ⊢
          simp only [if_true] at hP hO
          rw [hP, hO]
          have c2' : (tn.lf != m.lf) = false := by simp [c2]
          simp [c2', hi, w4, trB, stB, stR, treO, stoO, thO, Try.results61, e_kt, e_tk, e_ks, e_sk, e_kw, e_wk, e_ts, e_st, e_tw, e_wt, e_sw, e_ws, g_k0, f_k0, l_k1, g_k1, f_k1, g_t0, f_t0, l_t1, g_t1, f_t1, g_s0, f_s0, l_s1, g_s1, f_s1, g_w0, f_w0, l_w1, g_w1, f_w1, e_qr, e_rq, f_r0, l_r1]
          exact ⟨by omega, by omega, [(nx, nx + 2)], by simp [e_kt, e_tk, e_ks, e_sk, e_kw, e_wk, e_ts, e_st, e_tw, e_wt, e_sw, e_ws, g_k0, g_t0, g_t1, g_s0, g_s1, g_w0, g_w1, g_r0, g_r2, f_r2]; try (intro a b h; omega)⟩
        · rw [if_neg c2] at hE
          rw [hE] at hP hO ⊢
          have e10 : ¬ (10 : Int) = 0 := by decide
          rw [if_neg e10] at hP hO
          rw [hP, hO]
          have c2' : (tn.lf != m.lf) = true := by simpa using c2
          simp [c2', trB, stB, stR, treO, stoO, thO, nd0, Try.results61, e_kt, e_tk, e_ks, e_sk, e_kw, e_wk, e_ts, e_st, e_tw, e_wt, e_sw, e_ws, f_k0, l_k1, f_k1, g_t0, f_t0, l_t1, g_t1, f_t1, g_s0, f_s0, l_s1, g_s1, f_s1, g_w0, f_w0, l_w1, g_w1, f_w1, e_rq, f_r0, l_r1]
          exact ⟨[(nx, q)], by simp [e_kt, e_ks, e_kw, e_ts, e_st, e_tw, e_wt, e_sw, e_ws, g_k0, g_k1, g_t0, g_t1, g_s0, g_s1, g_w0, g_w1, e_qr, g_r0]⟩
      · rw [if_neg c1] at hE
        rw [hE] at hP hO ⊢
        rw [if_neg c1] at hP hO
        rw [hP, hO]
        have c1' : (te == 0) = false := by simpa using c1
        have c1'' : (te != 0) = true := by simpa using c1
        simp [c1', c1'', trB, stB, stR, treO, stoO, thO, nd0, Try.results61, e_kt, e_tk, e_ks, e_sk, e_kw, e_wk, e_ts, e_st, e_tw, e_wt, e_sw, e_ws, f_k0, l_k1, f_k1, g_t0, f_t0, l_t1, g_t1, f_t1, g_s0, f_s0, l_s1, g_s1, f_s1, g_w0, f_w0, l_w1, g_w1, f_w1, e_rq, f_r0, l_r1]
        exact ⟨[(nx, q)], by simp [e_kt, e_ks, e_kw, e_ts, e_st, e_tw, e_wt, e_sw, e_ws, g_k0, g_k1, g_t0, g_t1, g_s0, g_s1, g_w0, g_w1, e_qr, g_r0]⟩
end Go.Av

/-! part W26 -/
namespace Go.Av
open Go.Proofs Go.Tre
set_option maxRecDepth 100000
theorem mergeB (a : Nd) (key : Key) (c : Nd) (ha : NdSm a) (hc : NdSm c) : PureC Try.prog 62 [ndP a, .str key, ndP c] (ndP (merL a key c)) := by
  have h := merge26 a.lf a.ks a.vs key c.lf c.ks c.vs (by have := ha.ks; omega) (by have := ha.vs; omega) (by have := hc.ks; omega) (by have := hc.vs; omega)
  simpa [merL, List.append_assoc] using h
theorem merL_sm {a c : Nd} {key : Key} (ha : NdSm a) (hc : NdSm c) (hk : key.length ≤ 1000000) (h1 : a.ks.length ≤ 100) (h2 : c.ks.length ≤ 100) (h3 : a.vs.length ≤ 100) (h4 : c.vs.length ≤ 100) : NdSm (merL a key c) := by
  refine ⟨?_, ?_, ?_⟩
  · simp only [merL, List.length_append]; split <;> simp <;> omega
  · simp only [merL, List.length_append]; omega
  · intro x hx
    simp only [merL, List.mem_append] at hx
    rcases hx with hx | hx | hx
    · exact ha.keys x hx
    · split at hx
      · simp at hx
      · rw [List.mem_singleton] at hx; subst hx; exact hk
    · exact hc.keys x hx
/-- a node on the way in a state that's small enough -/
structure DnOk (n : Nd) : Prop where
  sm : NdSm n
  k : n.ks.length ≤ 20
  v : n.vs.length ≤ 20

set_option maxHeartbeats 8000000 in
theorem join37 (k q t s r w nx b : Nat) (h : Ids4 t s r w nx) (hq : IdsC k q t s r w nx) (S : Sto) (hS : SOkN b S) (hb : b + 2 ≤ 1000000000) (root : Int) (old : List Int) (ho : old.length ≤ 100000000) (st : Step) (hst : Right st.n) (hl : st.n.lf = false) (hc : st.c ≤ st.n.ks.length) (m : Nd) (hm : DnOk m) (u : De) (hu : u = joinF st ⟨S, old, m, 0⟩) :
    GenC Try.prog 37 [.obj k 0, .p (stP st), .p (ndP m)] ⟨chB k q t s r w S root (old ++ [st.p]), (q, 3, 1) :: stR r, nx⟩ (.agg true [.p (ndP u.n), .p (.int u.e)])
      ⟨chB k nx t s (nx + 1) (nx + 2) u.s root u.old, (nx, 3, 1) :: stR (nx + 1), nx + 3⟩ := by
  have h' := h
  have hq' := hq
  obtain ⟨ht, ⟨hs, hr, hw, sr, sw, rw_⟩, ts, tr, tw⟩ := h
  obtain ⟨hk, hqn, kt, ks, kw, qr⟩ := hq
  have e_kt : ¬ k = t := by omega
  have e_tk : ¬ t = k := by omega
  have e_ks : ¬ k = s := by omega
  have e_sk : ¬ s = k := by omega
  have e_kw : ¬ k = w := by omega
  have e_wk : ¬ w = k := by omega
  have e_ts : ¬ t = s := by omega
  have e_st : ¬ s = t := by omega
  have e_tw : ¬ t = w := by omega
  have e_wt : ¬ w = t := by omega
  have e_sw : ¬ s = w := by omega
  have e_ws : ¬ w = s := by omega
  have g_k0 : ¬ k = nx := by omega
  have f_k0 : ¬ nx = k := by omega
  have g_k1 : ¬ k = nx + 1 := by omega
  have g_k2 : ¬ k = nx + 2 := by omega
  have f_k2 : ¬ nx + 2 = k := by omega
  have l_k3 : k < nx + 3 := by omega
  have g_k4 : ¬ k = nx + 4 := by omega
  have f_k4 : ¬ nx + 4 = k := by omega
  have g_k5 : ¬ k = nx + 5 := by omega
  have f_k5 : ¬ nx + 5 = k := by omega
  have g_t0 : ¬ t = nx := by omega
  have f_t0 : ¬ nx = t := by omega
  have g_t1 : ¬ t = nx + 1 := by omega
  have g_t2 : ¬ t = nx + 2 := by omega
  have f_t2 : ¬ nx + 2 = t := by omega
  have l_t3 : t < nx + 3 := by omega
  have g_t4 : ¬ t = nx + 4 := by omega
  have f_t4 : ¬ nx + 4 = t := by omega
  have g_t5 : ¬ t = nx + 5 := by omega
  have f_t5 : ¬ nx + 5 = t := by omega
  have g_s0 : ¬ s = nx := by omega
  have f_s0 : ¬ nx = s := by omega
  have g_s1 : ¬ s = nx + 1 := by omega
  have g_s2 : ¬ s = nx + 2 := by omega
  have f_s2 : ¬ nx + 2 = s := by omega
  have l_s3 : s < nx + 3 := by omega
  have g_s4 : ¬ s = nx + 4 := by omega
  have f_s4 : ¬ nx + 4 = s := by omega
  have g_s5 : ¬ s = nx + 5 := by omega
  have f_s5 : ¬ nx + 5 = s := by omega
  have g_w0 : ¬ w = nx := by omega
  have f_w0 : ¬ nx = w := by omega
  have g_w2 : ¬ w = nx + 2 := by omega
  have f_w2 : ¬ nx + 2 = w := by omega
  have e_rq : ¬ r = q := by omega
  have g_r1 : ¬ r = nx + 1 := by omega
  have f_r1 : ¬ nx + 1 = r := by omega
  have hf := hst.form
  rw [hl] at hf
  have h1k := hst.inner hl
  have h4k := hst.len
  have hi : nbI st.c < st.n.vs.length := by unfold nbI; simp at hf; split <;> omega
  have hki : nbK st.c < st.n.ks.length := by unfold nbK; split <;> omega
  have hp : i64b st.n.vs[nbI st.c] := by have h1 := hst.vals _ (List.getElem_mem hi); exact ⟨by have := h1.1; omega, by have := h1.2; omega⟩
  have hgd : st.n.vs.getD (nbI st.c) 0 = st.n.vs[nbI st.c] := by rw [List.getD_eq_getElem?_getD, List.getElem?_eq_getElem hi]; rfl
  have hgk : st.n.ks.getD (nbK st.c) [] = st.n.ks[nbK st.c] := by rw [List.getD_eq_getElem?_getD, List.getElem?_eq_getElem hki]; rfl
  have hkk : (st.n.ks.getD (nbK st.c) []).length ≤ 1000000 := by rw [hgk]; have := (hst.keys _ (List.getElem_mem hki)).2; omega
  have hbs := beside61 k q t s r w (nx + 1) b (h'.up (by omega)) (hq'.up (by omega)) S hS (by omega) root (old ++ [st.p]) (by simp; omega) st hi (by omega) hp m
  refine gen_of_aw (rs := [_, _]) [] [(4, [(2, .r 1), (7, .r 1), (11, .r 1), (13, .w [])]), (10, [(0, .r 2), (2, .r 1), (7, .s 3 [])])] [(1, nx + 2), (2, nx + 5), (3, nx)] mixed Try.func37 rfl (by kernel_rfl) (by kernel_rfl) (by simp [Try.ntmps37]) rfl ?_
  have hsmm := hm.sm
  obtain ⟨hrf, hrs, hrl⟩ := rem_fm hst hki
  have hrv : nbK st.c < (remL st.n (nbK st.c)).vs.length := by simp [remL, bh, hl]; simp at hf; omega
  simp [trB, stB, stR, treO, stoO, thO, chB, chO]
  refine gcall_of0 hbs (by simp) (by simp [chO, treO, stoO, thO, sub1, e_tk, e_sk, e_wk, e_st, e_wt, e_ws, g_k0, g_t0, g_s0, g_w0]) (by simp [sub1, e_rq]) rfl ?_
  clear hbs
  obtain ⟨E, hE⟩ : ∃ E, E = bsE S st m := ⟨_, rfl⟩
  rw [← hE]
  unfold bsP bsO
  rw [← hE]
  unfold joinF at hu
  unfold mgN at hu
  unfold bsE at hE
  simp only [hgd, hgk] at hu hE ⊢
  have htl := tload_cases S st.n.vs[nbI st.c]
  generalize tload S st.n.vs[nbI st.c] = tt at *
  obtain ⟨tn, te⟩ := tt
  simp only at hu hE htl ⊢
  by_cases c0 : E = 0
  · have c1 : te = 0 := by
      rw [hE] at c0; by_cases c : te = 0
      · exact c
      · rw [if_neg c] at c0; exact absurd c0 c
    subst c1
    rw [if_pos rfl] at hE
    have c2 : tn.lf = m.lf := by
      by_cases c : tn.lf = m.lf
      · exact c
      · rw [if_neg c] at hE; omega
    rw [if_pos rfl, if_pos c2] at hu
    have hrt : Right tn := by
      rcases htl with h | h
      · exact h.2
      · omega
    have hsmtn : NdSm tn := right_sm hrt
    have ht4 := hrt.len
    have htv : tn.vs.length ≤ 100 := by have := hrt.form; split at this <;> omega
    have hmk := hm.k
    have hmv := hm.v
    rw [if_pos c0]
    rw [if_pos c0]
    subst c0
    rw [hgk] at hkk
    by_cases c3 : st.c = 0
    · rw [if_pos c3] at hu
      rw [if_pos c3]
      have hmg := mergeB m st.n.ks[nbK st.c] tn hsmm hsmtn
      have hms : NdSm (merL m st.n.ks[nbK st.c] tn) := merL_sm hsmm hsmtn hkk (by omega) (by omega) (by omega) (by omega)
      simp [hki, trB, stB, stR, treO, stoO, thO, chB, chO, e_tk, e_sk, e_wk, e_st, e_wt, e_ws, g_k0, f_k2, g_t0, f_t2, g_s0, f_s2, g_w0, f_w2, e_rq]
      refine call_of hmg ?_
      simp
      have hpg := putM_pg hS (by omega) hms
      refine gcall_of0 (put32 k (nx + 1) t s r w (nx + 3) b ⟨by omega, ⟨by omega, by omega, by omega, by omega, by omega, by omega⟩, by omega, by omega, by omega⟩ ⟨by omega, by omega, by omega, by omega, by omega, by omega⟩ S hS (by omega) root (old ++ [st.p] ++ [st.n.vs[nbI st.c]]) (merL m st.n.ks[nbK st.c] tn) hms) (by simp) (by simp [chO, treO, stoO, thO, sub1, e_tk, e_sk, e_wk, e_st, e_wt, e_ws, g_k2, g_t2, g_s2, g_w2]) (by simp [sub1, g_r1]) rfl ?_
      generalize Go.Tre.putM S (merL m st.n.ks[nbK st.c] tn) = pp at *
      obtain ⟨S', pg', key', e'⟩ := pp
      simp only at hu hpg ⊢
      by_cases c4 : e' = 0
      · subst c4
        have hp0 : 0 < pg'.length := hpg.2.1 rfl
        have hp2 := hpg.1
        rw [if_pos rfl] at hu
        unfold abN at hu
        simp only at hu
        simp [trB, stB, stR, treO, stoO, thO, chB, chO, e_tk, e_sk, e_wk, e_st, e_wt, e_ws, g_k0, g_k2, f_k2, g_t0, g_t2, f_t2, g_s0, g_s2, f_s2, g_w0, g_w2, g_r1]
        refine pcall_of (remB st.n (nbK st.c) (right_sm hst) (right_fm hst) hki) (by simp) ?_
        by_cases c5 : pg'.length = 2
        · have c5' : ((pg'.length : Int) == 2) = true := by simp; omega
          rw [if_pos c5] at hu
          rw [hu]
          simp [c5', f_k2, f_k5, f_t2, f_t5, f_s2, f_s5]
          refine pcall_of (insB (remL st.n (nbK st.c)) (nbK st.c) key' pg' hrs (by omega) hrf (by omega)) (by simp) ?_
          simp [Try.results37, e_kt, e_ks, e_ts, f_k0, g_k2, l_k3, f_t0, g_t2, l_t3, f_s0, g_s2, l_s3]
          exact ⟨[(nx, nx + 1), (nx + 1, nx + 3), (nx + 2, nx + 4)], by simp [e_kt, e_tk, e_ks, e_sk, e_ts, e_st, g_k0, g_k1, g_k2, g_k4, f_k4, g_k5, g_t0, g_t1, g_t2, g_t4, f_t4, g_t5, g_s0, g_s1, g_s2, g_s4, f_s4, g_s5]; try (intro a b h; omega)⟩
        · have c5' : ((pg'.length : Int) == 2) = false := by simp; omega
          have hg0 : pg'.getD 0 0 = pg'[0] := by rw [List.getD_eq_getElem?_getD, List.getElem?_eq_getElem hp0]; rfl
          rw [if_neg c5, hg0] at hu
          rw [hu]
          simp [c5', hp0, f_k2, f_k5, f_t2, f_t5, f_s2, f_s5]
          refine call_of (with59 (remL st.n (nbK st.c)) (nbK st.c) pg'[0] hrs hrv) ?_
          simp [Try.results37, e_kt, e_ks, e_ts, f_k0, g_k2, l_k3, f_t0, g_t2, l_t3, f_s0, g_s2, l_s3]
          exact ⟨[(nx, nx + 1), (nx + 1, nx + 3), (nx + 2, nx + 4)], by simp [e_kt, e_tk, e_ks, e_sk, e_ts, e_st, g_k0, g_k1, g_k2, g_k4, f_k4, g_k5, g_t0, g_t1, g_t2, g_t4, f_t4, g_t5, g_s0, g_s1, g_s2, g_s4, f_s4, g_s5]; try (intro a b h; omega)⟩
      · have c4' : (e' != 0) = true := by simpa using c4
        rw [if_neg c4] at hu
        rw [hu]
        simp [c4', trB, stB, stR, treO, stoO, thO, chB, chO, nd0, Try.results37, e_kt, e_tk, e_ks, e_sk, e_wk, e_ts, e_st, e_wt, e_ws, g_k0, f_k0, g_k2, l_k3, g_t0, f_t0, g_t2, l_t3, g_s0, f_s0, g_s2, l_s3, g_w0, g_w2, g_r1]
        exact ⟨[(nx, nx + 1), (nx + 1, nx + 3), (nx + 2, nx + 4)], by simp [e_kt, e_tk, e_ks, e_sk, e_ts, e_st, g_k0, g_k1, g_k2, g_k4, f_k4, g_t0, g_t1, g_t2, g_t4, f_t4, g_s0, g_s1, g_s2, g_s4, f_s4]; try (intro a b h; omega)⟩
    · rw [if_neg c3] at hu
      rw [if_neg c3]
      have hmg := mergeB tn st.n.ks[nbK st.c] m hsmtn hsmm
      have hms : NdSm (merL tn st.n.ks[nbK st.c] m) := merL_sm hsmtn hsmm hkk (by omega) (by omega) (by omega) (by omega)
      simp [hki, trB, stB, stR, treO, stoO, thO, chB, chO, e_tk, e_sk, e_wk, e_st, e_wt, e_ws, g_k0, f_k2, g_t0, f_t2, g_s0, f_s2, g_w0, f_w2, e_rq]
      refine call_of hmg ?_
      simp
      have hpg := putM_pg hS (by omega) hms
      refine gcall_of0 (put32 k (nx + 1) t s r w (nx + 3) b ⟨by omega, ⟨by omega, by omega, by omega, by omega, by omega, by omega⟩, by omega, by omega, by omega⟩ ⟨by omega, by omega, by omega, by omega, by omega, by omega⟩ S hS (by omega) root (old ++ [st.p] ++ [st.n.vs[nbI st.c]]) (merL tn st.n.ks[nbK st.c] m) hms) (by simp) (by simp [chO, treO, stoO, thO, sub1, e_tk, e_sk, e_wk, e_st, e_wt, e_ws, g_k2, g_t2, g_s2, g_w2]) (by simp [sub1, g_r1]) rfl ?_
      generalize Go.Tre.putM S (merL tn st.n.ks[nbK st.c] m) = pp at *
      obtain ⟨S', pg', key', e'⟩ := pp
      simp only at hu hpg ⊢
      by_cases c4 : e' = 0
      · subst c4
        have hp0 : 0 < pg'.length := hpg.2.1 rfl
        have hp2 := hpg.1
        rw [if_pos rfl] at hu
        unfold abN at hu
        simp only at hu
        simp [trB, stB, stR, treO, stoO, thO, chB, chO, e_tk, e_sk, e_wk, e_st, e_wt, e_ws, g_k0, g_k2, f_k2, g_t0, g_t2, f_t2, g_s0, g_s2, f_s2, g_w0, g_w2, g_r1]
        refine pcall_of (remB st.n (nbK st.c) (right_sm hst) (right_fm hst) hki) (by simp) ?_
        by_cases c5 : pg'.length = 2
        · have c5' : ((pg'.length : Int) == 2) = true := by simp; omega
          rw [if_pos c5] at hu
          rw [hu]
          simp [c5', f_k2, f_k5, f_t2, f_t5, f_s2, f_s5]
          refine pcall_of (insB (remL st.n (nbK st.c)) (nbK st.c) key' pg' hrs (by omega) hrf (by omega)) (by simp) ?_
          simp [Try.results37, e_kt, e_ks, e_ts, f_k0, g_k2, l_k3, f_t0, g_t2, l_t3, f_s0, g_s2, l_s3]
          exact ⟨[(nx, nx + 1), (nx + 1, nx + 3), (nx + 2, nx + 4)], by simp [e_kt, e_tk, e_ks, e_sk, e_ts, e_st, g_k0, g_k1, g_k2, g_k4, f_k4, g_k5, g_t0, g_t1, g_t2, g_t4, f_t4, g_t5, g_s0, g_s1, g_s2, g_s4, f_s4, g_s5]; try (intro a b h; omega)⟩
        · have c5' : ((pg'.length : Int) == 2) = false := by simp; omega
          have hg0 : pg'.getD 0 0 = pg'[0] := by rw [List.getD_eq_getElem?_getD, List.getElem?_eq_getElem hp0]; rfl
          rw [if_neg c5, hg0] at hu
          rw [hu]
          simp [c5', hp0, f_k2, f_k5, f_t2, f_t5, f_s2, f_s5]
          refine call_of (with59 (remL st.n (nbK st.c)) (nbK st.c) pg'[0] hrs hrv) ?_
          simp [Try.results37, e_kt, e_ks, e_ts, f_k0, g_k2, l_k3, f_t0, g_t2, l_t3, f_s0, g_s2, l_s3]
          exact ⟨[(nx, nx + 1), (nx + 1, nx + 3), (nx + 2, nx + 4)], by simp [e_kt, e_tk, e_ks, e_sk, e_ts, e_st, g_k0, g_k1, g_k2, g_k4, f_k4, g_k5, g_t0, g_t1, g_t2, g_t4, f_t4, g_t5, g_s0, g_s1, g_s2, g_s4, f_s4, g_s5]; try (intro a b h; omega)⟩
      · have c4' : (e' != 0) = true := by simpa using c4
        rw [if_neg c4] at hu
        rw [hu]
        simp [c4', trB, stB, stR, treO, stoO, thO, chB, chO, nd0, Try.results37, e_kt, e_tk, e_ks, e_sk, e_wk, e_ts, e_st, e_wt, e_ws, g_k0, f_k0, g_k2, l_k3, g_t0, f_t0, g_t2, l_t3, g_s0, f_s0, g_s2, l_s3, g_w0, g_w2, g_r1]
        exact ⟨[(nx, nx + 1), (nx + 1, nx + 3), (nx + 2, nx + 4)], by simp [e_kt, e_tk, e_ks, e_sk, e_ts, e_st, g_k0, g_k1, g_k2, g_k4, f_k4, g_t0, g_t1, g_t2, g_t4, f_t4, g_s0, g_s1, g_s2, g_s4, f_s4]; try (intro a b h; omega)⟩
  · rw [if_neg c0, if_neg c0]
    have hu' : u = ⟨S, old ++ [st.p], nd0, E⟩ := by
      rw [hu]
      by_cases c : te = 0
      · rw [if_pos c] at hE
        by_cases c2 : tn.lf = m.lf
        · rw [if_pos c2] at hE; exact absurd hE c0
        · rw [if_neg c2] at hE; rw [if_pos c, if_neg c2, hE]
      · rw [if_neg c] at hE; rw [if_neg c, hE]
    rw [hu']
    have c0' : (E != 0) = true := by simpa using c0
    simp [c0', trB, stB, stR, treO, stoO, thO, chB, chO, nd0, Try.results37, e_kt, e_tk, e_ks, e_sk, e_wk, e_ts, e_st, e_wt, e_ws, g_k0, f_k0, g_k2, f_k2, l_k3, g_t0, f_t0, g_t2, f_t2, l_t3, g_s0, f_s0, g_s2, f_s2, l_s3, g_w0, f_w0, f_w2, e_rq]
    exact ⟨[(nx, nx + 1), (nx + 1, r), (nx + 2, w)], by simp [e_kt, e_tk, e_ks, e_sk, e_kw, e_wk, e_ts, e_st, e_tw, e_wt, e_sw, e_ws, g_k0, g_k1, g_k2, g_t0, g_t1, g_t2, g_s0, g_s1, g_s2, g_w0, g_w2, g_r1, f_r1]; try (intro a b h; omega)⟩
end Go.Av

/-! part W27 -/
namespace Go.Av
open Go.Proofs Go.Tre
set_option maxRecDepth 100000
structure DeOk (b : Nat) (u : De) : Prop where
  s : SOkN b u.s
  old : u.old.length ≤ b
  oldb : ∀ p ∈ u.old, i64b p
  n : u.e = 0 → DnOk u.n
  v : u.e = 0 → u.n.lf = false → 0 < u.n.vs.length
theorem nb_lt {st : Step} (hx : StOk st) : nbI st.c < st.n.vs.length ∧ nbK st.c < st.n.ks.length ∧ i64b (st.n.vs.getD (nbI st.c) 0) ∧ (st.n.ks.getD (nbK st.c) []).length ≤ 1000000 := by
  have hf := hx.rt.form
  rw [hx.inn] at hf
  have h1k := hx.rt.inner hx.inn
  have hc := hx.c
  have hi : nbI st.c < st.n.vs.length := by unfold nbI; simp at hf; split <;> omega
  have hki : nbK st.c < st.n.ks.length := by unfold nbK; split <;> omega
  refine ⟨hi, hki, ?_, ?_⟩
  · rw [List.getD_eq_getElem?_getD, List.getElem?_eq_getElem hi]
    have h1 := hx.rt.vals _ (List.getElem_mem hi)
    exact ⟨by have := h1.1; simp only [Option.getD_some]; omega, by have := h1.2; simp only [Option.getD_some]; omega⟩
  · rw [List.getD_eq_getElem?_getD, List.getElem?_eq_getElem hki]
    have := (hx.rt.keys _ (List.getElem_mem hki)).2; simp only [Option.getD_some]; omega
theorem right_dn {n : Nd} (h : Right n) : DnOk n := ⟨right_sm h, by have := h.len; omega, by have h0 := h.len; have := h.form; split at this <;> omega⟩
theorem mgN_sm {st : Step} (hx : StOk st) {u : De} (hu : DnOk u.n) {tn : Nd} (ht : Right tn) : NdSm (mgN st u tn) := by
  have h1 := (nb_lt hx).2.2.2
  have h2 := right_dn ht
  have := hu.k; have := hu.v; have := h2.k; have := h2.v
  unfold mgN
  split
  · exact merL_sm hu.sm h2.sm h1 (by omega) (by omega) (by omega) (by omega)
  · exact merL_sm h2.sm hu.sm h1 (by omega) (by omega) (by omega) (by omega)
theorem withL_dn {n : Nd} (h : DnOk n) (c : Nat) (p : Int) : DnOk (withL n c p) := ⟨⟨h.sm.ks, by have := h.sm.vs; simp [withL]; omega, h.sm.keys⟩, h.k, by have := h.v; simp [withL]; omega⟩
theorem abN_ok {st : Step} (hx : StOk st) {r : Sto × List Int × Key × Int} (h2 : r.2.1.length ≤ 2) (hk : r.2.2.1.length ≤ 1000000) : DnOk (abN st.n (nbK st.c) r) ∧ 0 < (abN st.n (nbK st.c) r).vs.length := by
  obtain ⟨h3, h4, _, _⟩ := nb_lt hx
  obtain ⟨h5, h6, h7⟩ := rem_fm hx.rt h4
  have hf := hx.rt.form
  rw [hx.inn] at hf
  simp at hf
  have hl := hx.rt.len
  have hinn := hx.inn
  have h8 : (remL st.n (nbK st.c)).vs.length = st.n.ks.length := by simp [remL, bh, hinn]; omega
  have hd : DnOk (remL st.n (nbK st.c)) := ⟨h6, by omega, by omega⟩
  unfold abN
  split
  · rename_i h9
    refine ⟨⟨insL_sm h6 hk (by omega) (by omega) (by omega), ?_, ?_⟩, ?_⟩
    · simp [insL]; omega
    · simp [insL, remL, bh, hinn]; omega
    · simp [insL]; omega
  · exact ⟨withL_dn hd _ _, by simp [withL]; omega⟩
theorem deF_ok {st : Step} {u : De} {b : Nat} (hx : StOk st) (hu : DeOk b u) (hb : b + 2 ≤ 1000000000) : DeOk (b + 2) (deF st u) := by
  obtain ⟨h1, h2, h3, h4⟩ := nb_lt hx
  have hold := hu.old
  have hob : ∀ p ∈ u.old ++ [st.p], i64b p := by
    intro p hp
    rcases List.mem_append.1 hp with hp | hp
    · exact hu.oldb p hp
    · rw [List.mem_singleton] at hp; subst hp; exact hx.p
  unfold deF
  split
  · rename_i he
    have hn := hu.n he
    split
    · unfold joinF
      split
      · rename_i htl
        have hrt := (tload_inv htl).2
        split
        · have hms := mgN_sm hx hn hrt
          have hpg := putM_pg hu.s hb hms
          refine ⟨hu.s.putM hms, by simp; omega, ?_, ?_, ?_⟩
          · intro p hp
            simp only at hp
            rcases List.mem_append.1 hp with hp | hp
            · exact hob p hp
            · rw [List.mem_singleton] at hp; subst hp; exact h3
          · intro e; simp only at e ⊢; rw [if_pos e]; exact (abN_ok hx hpg.1 hpg.2.2.2).1
          · intro e _; simp only at e ⊢; rw [if_pos e]; exact (abN_ok hx hpg.1 hpg.2.2.2).2
        · exact ⟨hu.s.up (by omega), by simp; omega, hob, fun e => absurd e (by simp), fun e => absurd e (by simp)⟩
      · rename_i htl
        exact ⟨hu.s.up (by omega), by simp; omega, hob, fun e => absurd e htl, fun e => absurd e htl⟩
    · unfold sameF
      refine ⟨(hu.s.save hn.sm).up (by omega), by simp; omega, hob, ?_, ?_⟩
      · intro e; simp only at e ⊢; rw [if_pos e]; exact withL_dn (right_dn hx.rt) _ _
      · intro e _; simp only at e ⊢; rw [if_pos e]; simp [withL]; omega
  · exact ⟨hu.s.up (by omega), by omega, hu.oldb, hu.n, hu.v⟩
theorem defold_ok {b : Nat} {u : De} (hu : DeOk b u) : ∀ (l : List Step), (∀ x ∈ l, StOk x) → b + 2 * l.length ≤ 1000000000 → DeOk (b + 2 * l.length) (l.foldr deF u)
  | [], _, _ => hu
  | x :: l, h, hb => by
    have ih := defold_ok hu l (fun y hy => h y (by simp [hy])) (by simp at hb; omega)
    have := deF_ok (h x (by simp)) ih (by simp at hb; omega)
    simpa [Nat.mul_add, Nat.add_assoc] using this
theorem defold_err {u : De} (h : u.e ≠ 0) : ∀ (l : List Step), l.foldr deF u = u
  | [] => rfl
  | x :: l => by simp only [List.foldr_cons, defold_err h l]; unfold deF; rw [if_neg h]
theorem topU_s (root was : Int) (u : De) : (topU root was u).s = (topU root 0 u).s ∧ (topU root was u).root = (topU root 0 u).root ∧ (topU root was u).e = (topU root 0 u).e ∧
    (topU root was u).was = (if (topU root 0 u).e = 0 then was else 0) ∧ (topU root was u).had = (if (topU root 0 u).e = 0 then true else false) := by
  unfold topU
  by_cases c1 : u.e = 0
  · simp only [if_pos c1]
    by_cases c2 : u.n.ks.length = 0
    · simp [c2]
    · simp only [if_neg c2]
      by_cases c3 : (u.s.save u.n).2.2 = 0
      · simp [c3]
      · simp [c3]
  · simp [c1]
theorem del_start {b : Nat} {S : Sto} (hS : SOkN b S) {x : Step} (hx : Right x.n) (hp : i64b x.p) {i : Nat} (hi : i < x.n.ks.length) : DeOk (b + 1) ⟨S, [x.p], remL x.n i, 0⟩ := by
  obtain ⟨h5, h6, h7⟩ := rem_fm hx hi
  have hf := hx.form
  have hl := hx.len
  refine ⟨hS.up (by omega), by simp, by simpa using hp, fun _ => ⟨h6, by simp only; omega, ?_⟩, fun _ h => ?_⟩
  · simp only [remL, List.length_append, List.length_take, List.length_drop]; split at hf <;> omega
  · have hlf : x.n.lf = false := h
    rw [hlf] at hf
    simp at hf
    simp [remL, bh, hlf]; omega
end Go.Av

/-! part W28 -/
namespace Go.Av
open Go.Proofs Go.Tre
set_option maxRecDepth 100000

set_option maxHeartbeats 8000000 in
theorem delete13 (t s r w nx b : Nat) (h : Ids4 t s r w nx) (S : Sto) (hS : SOkN b S) (hb : b + 1100 ≤ 100000000) (root : Int) (hroot : i64b root) (key : Key) :
    GenC Try.prog 13 [.obj t 0, .p (.str key)] ⟨trB t s r w S root, stR r, nx⟩ (.agg true [.p (.int (delT S root key).was), .p (.bool (delT S root key).had), .p (.int (delT S root key).e)])
      ⟨trB t s nx (nx + 1) (delT S root key).s (delT S root key).root, stR nx, nx + 2⟩ := by
  have h' := h
  obtain ⟨ht, ⟨hs, hr, hw, sr, sw, rw_⟩, ts, tr, tw⟩ := h
  have e_ts : ¬ t = s := by omega
  have e_st : ¬ s = t := by omega
  have e_tw : ¬ t = w := by omega
  have e_wt : ¬ w = t := by omega
  have e_sw : ¬ s = w := by omega
  have e_ws : ¬ w = s := by omega
  have g_t0 : ¬ t = nx := by omega
  have f_t0 : ¬ nx = t := by omega
  have g_t1 : ¬ t = nx + 1 := by omega
  have f_t1 : ¬ nx + 1 = t := by omega
  have l_t2 : t < nx + 2 := by omega
  have g_t2 : ¬ t = nx + 2 := by omega
  have g_t3 : ¬ t = nx + 3 := by omega
  have g_t4 : ¬ t = nx + 4 := by omega
  have f_t4 : ¬ nx + 4 = t := by omega
  have l_t5 : t < nx + 5 := by omega
  have g_t5 : ¬ t = nx + 5 := by omega
  have f_t5 : ¬ nx + 5 = t := by omega
  have g_t6 : ¬ t = nx + 6 := by omega
  have f_t6 : ¬ nx + 6 = t := by omega
  have g_t8 : ¬ t = nx + 8 := by omega
  have f_t8 : ¬ nx + 8 = t := by omega
  have g_t9 : ¬ t = nx + 9 := by omega
  have f_t9 : ¬ nx + 9 = t := by omega
  have g_s0 : ¬ s = nx := by omega
  have f_s0 : ¬ nx = s := by omega
  have g_s1 : ¬ s = nx + 1 := by omega
  have f_s1 : ¬ nx + 1 = s := by omega
  have l_s2 : s < nx + 2 := by omega
  have g_s2 : ¬ s = nx + 2 := by omega
  have g_s3 : ¬ s = nx + 3 := by omega
  have g_s4 : ¬ s = nx + 4 := by omega
  have f_s4 : ¬ nx + 4 = s := by omega
  have l_s5 : s < nx + 5 := by omega
  have g_s5 : ¬ s = nx + 5 := by omega
  have f_s5 : ¬ nx + 5 = s := by omega
  have g_s6 : ¬ s = nx + 6 := by omega
  have f_s6 : ¬ nx + 6 = s := by omega
  have g_s8 : ¬ s = nx + 8 := by omega
  have f_s8 : ¬ nx + 8 = s := by omega
  have g_s9 : ¬ s = nx + 9 := by omega
  have f_s9 : ¬ nx + 9 = s := by omega
  have g_r2 : ¬ r = nx + 2 := by omega
  have f_r2 : ¬ nx + 2 = r := by omega
  have g_w0 : ¬ w = nx := by omega
  have f_w0 : ¬ nx = w := by omega
  have g_w1 : ¬ w = nx + 1 := by omega
  have f_w1 : ¬ nx + 1 = w := by omega
  have v_0_1 : ¬ nx = nx + 7 + 1 := by omega
  have v_0_2 : ¬ nx = nx + 7 + 2 := by omega
  refine gen_of_aw (rs := [_, _, _]) [69] [(15, [(4, .r 1), (6, .r 2), (8, .f [1, 2]), (11, .s 1 [2])])] [(1, nx + 1), (2, nx + 5)] mixed Try.func13 rfl (by kernel_rfl) (by kernel_rfl) (by simp [Try.ntmps13]) rfl ?_
  obtain ⟨R, hR⟩ : ∃ R, R = delT S root key := ⟨_, rfl⟩
  rw [← hR]
  unfold delT at hR
  simp
  refine gcall_of0 (way29 t s r w nx h' S (hS.ok (by omega)) root hroot key) (by simp) (by simp [trB, stB, treO, stoO, thO, sub1, e_st, e_wt, e_ws]) (by simp [stR, sub1]) rfl ?_
  have hst := fun l x => way_st (S := S) (key := key) hroot (l := l) (x := x)
  generalize wayM S key 40 root [] = q at *
  obtain ⟨l, e⟩ := q
  simp only at hst hR ⊢
  by_cases c2 : ¬ e = 0
  · have c2' : (e != 0) = true := by simpa using c2
    rw [if_neg c2] at hR
    rw [hR]
    simp [trB, stB, stR, treO, stoO, thO, c2', Try.results13, e_ts, e_st, e_wt, e_ws, g_t1, l_t2, g_s1, l_s2]
    exact ⟨[(nx, r), (nx + 1, w)], by simp [e_ts, e_st, e_tw, e_wt, e_sw, e_ws, g_t0, g_t1, g_s0, g_s1]; intro a b h; omega⟩
  have c2 := Decidable.not_not.1 c2
  subst c2
  rw [if_pos rfl] at hR
  rcases List.eq_nil_or_concat l with rfl | ⟨l, x, rfl⟩
  · simp only [List.getLast?_nil] at hR
    rw [hR]
    simp [trB, stB, stR, treO, stoO, thO, Try.results13, e_ts, e_st, e_wt, e_ws, g_t1, l_t2, g_s1, l_s2]
    exact ⟨[(nx, r), (nx + 1, w)], by simp [e_ts, e_st, e_tw, e_wt, e_sw, e_ws, g_t0, g_t1, g_s0, g_s1]; intro a b h; omega⟩
  rw [List.concat_eq_append] at hR hst ⊢
  obtain ⟨hsl, hx, hxp, hl40⟩ := hst l x rfl
  simp only [List.getLast?_concat, List.dropLast_concat] at hR
  obtain ⟨pl, hpl⟩ : ∃ pl, pl = l ++ [x] := ⟨_, rfl⟩
  rw [← hpl]
  have hpn : pl.length = l.length + 1 := by rw [hpl]; simp
  have hpx : pl[l.length]'(by omega) = x := by simp [hpl]
  have hpm : ∀ (m : Nat) (hm : m < l.length), pl[m]'(by omega) = l[m] := fun m hm => by simp [hpl, hm]
  have hlp : l.length < pl.length := by omega
  have hp0 : ((pl.length : Int) == 0) = false := by simp; intro hz; rw [hz] at hpn; simp at hpn
  have hp0' : pl ≠ [] := fun hz => by rw [hz] at hpn; simp at hpn
  have w1 : IntKind.i64.wrap ((pl.length : Int) - 1) = (l.length : Int) := by rw [hpn, wrap64_id (by omega) (by omega)]; omega
  have w2 : IntKind.i64.wrap (l.length : Int) = (l.length : Int) := wrap64_id (by omega) (by omega)
  have w3 : IntKind.i64.wrap ((l.length : Int) - 1) = (l.length : Int) - 1 := wrap64_id (by omega) (by omega)
  simp [w1, hp0, hlp, hpx, trB, stB, stR, treO, stoO, thO, e_st, e_wt, e_ws]
  refine pcall_of (findB x.n key (by have := (right_sm hx).ks; omega)) (by simp) ?_
  by_cases ch : ¬ hadM x.n key = true
  · have ch' : hadM x.n key = false := by simpa using ch
    rw [if_neg ch] at hR
    rw [hR]
    simp [ch', Try.results13, e_ts, g_t1, l_t2, g_s1, l_s2]
    exact ⟨[(nx, r), (nx + 1, w)], by simp [e_ts, e_st, e_tw, e_wt, e_sw, e_ws, g_t0, g_t1, g_s0, g_s1]; intro a b h; omega⟩
  have ch := Decidable.not_not.1 ch
  rw [if_pos ch] at hR
  obtain ⟨hfi, hfk⟩ := had_lt ch
  have hfv : findM x.n key < x.n.vs.length := by have := hx.form; omega
  have hgx : getX x key = (x.n.vs[findM x.n key], true) := by
    unfold getX; rw [if_pos ch, List.getD_eq_getElem?_getD, List.getElem?_eq_getElem hfv]; rfl
  rw [hgx] at hR
  unfold deAll at hR
  have hu0 := del_start hS hx hxp hfi
  obtain ⟨u0, hu0e⟩ : ∃ u0 : De, u0 = ⟨S, [x.p], remL x.n (findM x.n key), 0⟩ := ⟨_, rfl⟩
  rw [← hu0e] at hu0 hR
  have hR2 := topU_s root x.n.vs[findM x.n key] (l.foldr deF u0)
  simp only at hR
  rw [← hR] at hR2
  obtain ⟨gs, gr, ge, gw, gh⟩ := hR2
  simp [ch, hfv, hlp, hpx]
  refine pcall_of (remB x.n (findM x.n key) (right_sm hx) (right_fm hx) hfi) (by simp) ?_
  simp [w3, hlp, hpx, f_t0, f_s0, f_w0]
  refine aw_loop (fun y : Nat × De => y.1 ≤ l.length ∧ y.2 = (l.drop y.1).foldr deF u0 ∧ y.2.e = 0)
    (fun y => [(0, .obj t 0), (7, .p (.sl (pl.map stP))), (9, .p (.int ((y.1 : Int) - 1))), (12, .p (.int x.n.vs[findM x.n key])), (13, .obj nx 0), (14, .obj (nx + 1) 0)])
    (fun y => let u := y.2; ⟨[(nx, ⟨56, 3, [.p (.bool u.n.lf), .p (.sl (u.n.ks.map PC.str)), .p (.sl (u.n.vs.map PC.int))]⟩), (nx + 1, chO t (nx + 2) u.old), (t, treO s root), (s, stoO (nx + 3) (nx + 4) u.s), (nx + 4, thO u.s)], [(nx + 2, 3, 1), (nx + 3, 56, 3)], nx + 5⟩) (fun y => y.1) (l.length, u0) ⟨by simp, by simp, by rw [hu0e]⟩ _ (le_ownO (nx + 1) 1 3 1 ⟨80, 2, [.obj t 0, .full [.int x.p]]⟩ [.int x.p] (by simp) (by simp)) (leN_of [(nx + 2, nx + 1 + 1), (nx + 3, r), (nx + 4, w)] (by simp [hu0e, chO, treO, stoO, thO, e_ts, e_st, e_tw, e_wt, e_sw, e_ws, g_t0, f_t0, g_t1, f_t1, g_t2, g_t3, g_t4, l_t5, g_s0, f_s0, g_s1, f_s1, g_s2, g_s3, g_s4, l_s5, g_r2, f_r2, g_w0, f_w0, g_w1, f_w1])) ?_
  rintro ⟨m, u⟩ ⟨g1, g2, g3⟩
  simp only at g1 g2 g3
  have hu : DeOk (b + 1 + 2 * (l.length - m)) u := by
    rw [g2]
    have := defold_ok hu0 (l.drop m) (fun x hx => hsl x (List.mem_of_mem_drop hx)) (by simp; omega)
    simpa using this
  have hun := hu.n g3
  have huv := hu.v g3
  cases m with
  | zero =>
    have e : l.foldr deF u0 = u := by rw [g2]; rfl
    rw [e] at gs gr ge gw gh
    have hue : u = ⟨u.s, u.old, u.n, 0⟩ := by rw [← g3]
    have htop := top39 (nx + 1) (nx + 2) t s (nx + 3) (nx + 4) (nx + 5) _ ⟨by omega, ⟨by omega, by omega, by omega, by omega, by omega, by omega⟩, by omega, by omega, by omega⟩ ⟨by omega, by omega, by omega, by omega, by omega, by omega⟩ u.s hu.s (by omega) root u.old (by have := hu.old; omega) hu.oldb u.n hun.sm huv (topU root 0 u) (by rw [← hue])
    rw [← gs, ← gr, ← ge] at htop
    rw [← ge] at gw gh
    simp [chO, treO, stoO, thO]
    refine gcall_of0 htop (by simp) (by simp [chO, treO, stoO, thO, sub1, e_st, g_t0, g_t1, f_t4, g_s0, g_s1, f_s4]) (by simp [sub1]) rfl ?_
    by_cases c5 : R.e = 0
    · rw [if_pos c5] at gw gh
      rw [gw, gh]
      simp [c5, chB, chO, trB, stB, stR, treO, stoO, thO, Try.results13, e_ts, e_st, g_t0, g_t1, l_t2, f_t4, g_s0, g_s1, l_s2, f_s4]
      exact ⟨[(nx, nx + 5), (nx + 1, nx + 6)], by simp [e_ts, e_st, g_t0, g_t1, g_t6, f_t6, g_s0, g_s1, g_s6, f_s6]; intro a b h; omega⟩
    · rw [if_neg c5] at gw gh
      rw [gw, gh]
      have c5' : (R.e != 0) = true := by simpa using c5
      simp [c5', chB, chO, trB, stB, stR, treO, stoO, thO, Try.results13, e_ts, e_st, g_t0, g_t1, l_t2, f_t4, g_s0, g_s1, l_s2, f_s4]
      exact ⟨[(nx, nx + 5), (nx + 1, nx + 6)], by simp [e_ts, e_st, g_t0, g_t1, g_t6, f_t6, g_s0, g_s1, g_s6, f_s6]; intro a b h; omega⟩
  | succ m =>
  have hm : m < l.length := by omega
  have hm' : m < pl.length := by omega
  obtain ⟨st, hse⟩ : ∃ st, st = l[m] := ⟨_, rfl⟩
  have hx2 : StOk st := by rw [hse]; exact hsl _ (List.getElem_mem hm)
  have hnx : (l.drop m).foldr deF u0 = deF st u := by rw [List.drop_eq_getElem_cons hm, List.foldr_cons, ← g2, hse]
  have hall : l.foldr deF u0 = (l.take m).foldr deF (deF st u) := by
    conv => lhs; rw [← List.take_append_drop m l]
    rw [List.foldr_append, hnx]
  have hol := hu.old
  have hxm : pl[m] = st := by rw [hpm m hm]; exact hse.symm
  have wm2 : IntKind.i64.wrap ((m : Int) - 1) = (m : Int) - 1 := wrap64_id (by omega) (by omega)
  obtain ⟨nb1, nb2, nb3, nb4⟩ := nb_lt hx2
  have hcv : st.c < st.n.vs.length := by have h1 := hx2.rt.form; have h2 := hx2.c; rw [hx2.inn] at h1; simp at h1; omega
  have hue : u = ⟨u.s, u.old, u.n, 0⟩ := by rw [← g3]
  simp [hm', hxm, chO, treO, stoO, thO, f_t1, f_t5, f_s1, f_s5]
  refine ⟨by omega, by omega, ?_⟩
  refine pcall_of (few36 u.n) (by simp) ?_
  by_cases cf : fewN u.n = true
  · simp [cf]
    refine gcall_of0 (join37 (nx + 1) (nx + 6) t s (nx + 3) (nx + 4) (nx + 7) _ ⟨by omega, ⟨by omega, by omega, by omega, by omega, by omega, by omega⟩, by omega, by omega, by omega⟩ ⟨by omega, by omega, by omega, by omega, by omega, by omega⟩ u.s hu.s (by omega) root u.old (by omega) st hx2.rt hx2.inn hx2.c u.n hun (deF st u) (by unfold deF; rw [if_pos g3, if_pos cf, ← hue])) (by simp) (by simp [chO, treO, stoO, thO, sub1, e_st, g_t0, g_t1, f_t4, g_t5, g_s0, g_s1, f_s4, g_s5]) (by simp [sub1]) rfl ?_
    generalize deF st u = v at *
    by_cases c3 : v.e = 0
    · simp [c3, chB, chO, trB, stB, stR, treO, stoO, thO, e_st, g_t0, f_t0, g_t1, f_t4, g_t5, g_s0, f_s0, g_s1, f_s4, g_s5, v_0_2]
      exact ⟨m, v, ⟨by omega, hnx.symm, c3⟩, by omega, leN_of [(nx + 2, nx + 7), (nx + 3, nx + 8), (nx + 4, nx + 9)] (by simp [wm2, e_ts, e_st, g_t0, f_t0, g_t1, f_t1, g_t2, g_t3, g_t4, l_t5, g_t9, f_t9, g_s0, f_s0, g_s1, f_s1, g_s2, g_s3, g_s4, l_s5, g_s9, f_s9]; try (intro a b h; omega))⟩
    · have c3' : (v.e != 0) = true := by simpa using c3
      rw [hall, defold_err c3] at gs gr ge gw gh
      have hfu : topU root 0 v = ⟨v.s, root, 0, false, v.e⟩ := by unfold topU; rw [if_neg c3]
      rw [hfu] at gs gr ge gw gh
      simp only at gs gr ge gw gh
      rw [if_neg c3] at gw gh
      rw [gs, gr, ge, gw, gh]
      simp [c3', chB, chO, trB, stB, stR, treO, stoO, thO, Try.results13, e_ts, e_st, g_t0, f_t0, g_t1, l_t2, f_t4, g_t5, g_s0, f_s0, g_s1, l_s2, f_s4, g_s5, v_0_2]
      exact ⟨[(nx, nx + 8), (nx + 1, nx + 9)], by simp [e_ts, e_st, g_t0, g_t1, g_t9, f_t9, g_s0, g_s1, g_s9, f_s9]; intro a b h; omega⟩
  · have cf' : fewN u.n = false := by simpa using cf
    have hsm := same38 (nx + 1) (nx + 6) t s (nx + 3) (nx + 4) (nx + 7) _ ⟨by omega, ⟨by omega, by omega, by omega, by omega, by omega, by omega⟩, by omega, by omega, by omega⟩ ⟨by omega, by omega, by omega, by omega, by omega, by omega⟩ u.s hu.s (by omega) root (u.old ++ [st.p]) st (right_sm hx2.rt) hcv u.n hun.sm
    have hde : deF st u = sameF st u := by unfold deF; rw [if_pos g3, if_neg cf]
    unfold sameF at hde
    generalize u.s.save u.n = sa at *
    obtain ⟨S', p', e'⟩ := sa
    simp only at hde hsm
    simp [cf']
    refine gcall_of0 hsm (by simp) (by simp [chO, treO, stoO, thO, sub1, e_st, g_t0, g_t1, f_t4, g_t5, g_s0, g_s1, f_s4, g_s5]) (by simp [sub1]) rfl ?_
    by_cases c3 : e' = 0
    · subst c3
      rw [if_pos rfl] at hde ⊢
      rw [hde] at hnx
      simp [chB, chO, trB, stB, stR, treO, stoO, thO, e_st, g_t0, f_t0, g_t1, f_t4, g_t5, g_s0, f_s0, g_s1, f_s4, g_s5, v_0_1]
      exact ⟨m, _, ⟨by omega, hnx.symm, rfl⟩, by omega, leN_of [(nx + 2, nx + 6), (nx + 3, nx + 7), (nx + 4, nx + 8)] (by simp [wm2, e_ts, e_st, g_t0, f_t0, g_t1, f_t1, g_t2, g_t3, g_t4, l_t5, g_t8, f_t8, g_s0, f_s0, g_s1, f_s1, g_s2, g_s3, g_s4, l_s5, g_s8, f_s8]; try (intro a b h; omega))⟩
    · have c3' : (e' != 0) = true := by simpa using c3
      rw [if_neg c3] at hde ⊢
      rw [hde] at hall
      rw [hall, defold_err (by exact c3)] at gs gr ge gw gh
      have hfu : topU root 0 ⟨S', u.old ++ [st.p], nd0, e'⟩ = ⟨S', root, 0, false, e'⟩ := by unfold topU; rw [if_neg c3]
      rw [hfu] at gs gr ge gw gh
      simp only at gs gr ge gw gh
      rw [if_neg c3] at gw gh
      rw [gs, gr, ge, gw, gh]
      simp [c3', nd0, chB, chO, trB, stB, stR, treO, stoO, thO, Try.results13, e_ts, e_st, g_t0, f_t0, g_t1, l_t2, f_t4, g_t5, g_s0, f_s0, g_s1, l_s2, f_s4, g_s5, v_0_1]
      exact ⟨[(nx, nx + 7), (nx + 1, nx + 8)], by simp [e_ts, e_st, g_t0, g_t1, g_t8, f_t8, g_s0, g_s1, g_s8, f_s8]; intro a b h; omega⟩
end Go.Av
