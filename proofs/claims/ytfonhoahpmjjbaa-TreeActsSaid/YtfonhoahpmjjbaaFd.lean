/- What a tree's check and a change's parts compute. -/
import Derived.Test.YtfonhoahpmjjbaaFc
set_option linter.all false
/-! part W18 -/
namespace Go.Av
open Go.Proofs Go.Tre
set_option maxRecDepth 100000

/-- nothing, in an object's cell, may be handed over as a row -/
theorem gen_cell {P : Program} {f : FuncId} {xs : List AV} {r : AV} {tb tb' : Tb} (id j : Nat) (el sz : Nat) (ob : Ob) (hl : lk id tb.bx = some ob) (hj : ob.xs[j]? = some (.p .nil))
    (hk : GenC P f xs ((tb.addRw el sz).setOb id { ob with xs := ob.xs.set j (.own tb.nx []) }) r tb') : GenC P f xs tb r tb' := by
  refine ⟨hk.1, fun g w vs F h1 hvs => ?_⟩
  obtain ⟨b, c, f1, fr, f0⟩ := h1.boxes id ob hl
  have hxne : ob.xs ≠ [] := fun hz => by rw [hz] at hj; simp at hj
  have hcp : 0 < c := Nat.pos_of_ne_zero fun hz => hxne (f0 hz)
  obtain ⟨cur, f2, f3, ⟨tt, fz, f4, fo⟩, f5, f6, f7, f8, f9⟩ := fr hcp
  obtain ⟨u, hu, hr⟩ := f8.get hj
  have hrp := repV_p hr
  cases hrp
  have hle := h1.leRv (.slice none 0 0)
  have h1' := h1.fullRw el sz none 0
  have hl' : lk id (tb.addRw el sz).bx = some ob := hl
  have set_rep : ∀ {vs : List Value} {ys : List AV} (j : Nat) (v : Value), vs[j]? = some v → RepVs (g.rvAt tb.nx (.slice none 0 0)) vs ys → RepV (g.rvAt tb.nx (.slice none 0 0)) v (.own tb.nx []) → RepVs (g.rvAt tb.nx (.slice none 0 0)) vs (ys.set j (.own tb.nx [])) := by
    intro vs ys
    induction ys generalizing vs with
    | nil => intro j v _ hs _; simpa using hs
    | cons y ys ih =>
      intro j v hv hs hn
      cases hs with
      | cons h hs =>
        cases j with
        | zero => simp at hv; subst hv; exact .cons hn hs
        | succ j => simp at hv; exact .cons h (ih j v hv hs hn)
  have key := h1'.setOb (o' := { ob with xs := ob.xs.set j (.own tb.nx []) }) (cur' := cur) hl' (show (g.rvAt tb.nx (.slice none 0 0)).ob id = some (b, c) from f1) hcp f4 rfl rfl rfl (by simpa using f7)
    (by
      simp only [List.length_set]
      exact set_rep j _ hu (f8.mono hle) (.own (by simp [G.rvAt]) .nilsl))
    (by simpa using f9)
  have hw : w.setRow b cur = w := setRow_self f4
  rw [hw] at key
  refine (hk.2 _ w vs F key (hvs.mono hle)).mono ?_
  rintro e w' ⟨v, g', rfl, h2, h3, h4⟩
  exact ⟨v, g', rfl, hle.trans h2, h3, h4⟩


@[reducible] def ckO (t q : Nat) (c : Ck) : Ob := ⟨100, 3, [.obj t 0, .own q (c.seen.map PC.int), .p (.int c.dep)]⟩
@[reducible] def ckB (k q t s r w : Nat) (S : Sto) (root : Int) (c : Ck) : List (Nat × Ob) := (k, ckO t q c) :: trB t s r w S root
structure IdsC (k q t s r w nx : Nat) : Prop where
  hk : k < nx
  hq : q < nx
  kt : k ≠ t
  ks : k ≠ s
  kw : k ≠ w
  qr : q ≠ r
theorem IdsC.up {k q t s r w nx m : Nat} (h : IdsC k q t s r w nx) (hm : nx ≤ m) : IdsC k q t s r w m := ⟨by have := h.hk; omega, by have := h.hq; omega, h.kt, h.ks, h.kw, h.qr⟩

theorem dep_next {S : Sto} {f d : Nat} {p : Int} {lo : Key} {hi : Option Key} {c : Ck} (h : SeenOk S c) (h0 : (nodeM S f d p lo hi c).2 = 0) : 0 ≤ (nodeM S f d p lo hi c).1.dep ∧ (nodeM S f d p lo hi c).1.dep + 1 ≤ d + f := by
  obtain ⟨h', n, its, pg, e1, e2, e3, e4, e5, e6, e7, e8⟩ := chk_tr h0 h.nd
  rw [e6]
  constructor
  · simp only; omega
  · simp only; omega
set_option maxHeartbeats 4000000 in
theorem node44 (k t s r w : Nat) (S : Sto) (hS : SOk S) (root : Int) : ∀ (f d : Nat) (page : Int) (lo : Key) (hi : Option Key) (c : Ck) (nx q : Nat), Ids4 t s r w nx → IdsC k q t s r w nx → i64b page → d + f = 40 → SeenOk S c → -1 ≤ c.dep → c.dep ≤ 40 →
    GenC Try.prog 44 [.obj k 0, .p (.int page), .p (.int d), .p (.str lo), .p (.str (hi.getD [])), .p (.bool hi.isSome)] ⟨ckB k q t s r w S root c, (q, 3, 1) :: stR r, nx⟩
      (.p (.int (nodeM S f d page lo hi c).2)) ⟨ckB k nx t s r w S root (nodeM S f d page lo hi c).1, (nx, 3, 1) :: stR r, nx + 1⟩ := by
  intro f
  induction f with
  | zero =>
    intro d page lo hi c nx q h hq hp hd hc1 hc2 hc3
    have h' := h
    have hq' := hq
    obtain ⟨ht, ⟨hs, hr, hw, sr, sw, rw_⟩, ts, tr, tw⟩ := h
    obtain ⟨hk, hqn, kt, ks, kw, qr⟩ := hq
    have e_kt : ¬ k = t := by omega
    have e_tk : ¬ t = k := by omega
    have e_ks : ¬ k = s := by omega
    have e_sk : ¬ s = k := by omega
    have e_kw : ¬ k = w := by omega
    have e_wk : ¬ w = k := by omega
    have e_ts : ¬ t = s := by omega
    have e_st : ¬ s = t := by omega
    have e_tw : ¬ t = w := by omega
    have e_wt : ¬ w = t := by omega
    have e_sw : ¬ s = w := by omega
    have e_ws : ¬ w = s := by omega
    have l_k0 : k < nx := by omega
    have g_k0 : ¬ k = nx := by omega
    have f_k0 : ¬ nx = k := by omega
    have l_k1 : k < nx + 1 := by omega
    have g_k1 : ¬ k = nx + 1 := by omega
    have f_k1 : ¬ nx + 1 = k := by omega
    have l_k2 : k < nx + 2 := by omega
    have g_k2 : ¬ k = nx + 2 := by omega
    have f_k2 : ¬ nx + 2 = k := by omega
    have m_k2 : k < nx + 1 + 1 := by omega
    have n_k2 : ¬ k = nx + 1 + 1 := by omega
    have o_k2 : ¬ nx + 1 + 1 = k := by omega
    have l_k3 : k < nx + 3 := by omega
    have g_k3 : ¬ k = nx + 3 := by omega
    have f_k3 : ¬ nx + 3 = k := by omega
    have m_k3 : k < nx + 1 + 1 + 1 := by omega
    have n_k3 : ¬ k = nx + 1 + 1 + 1 := by omega
    have o_k3 : ¬ nx + 1 + 1 + 1 = k := by omega
    have l_k4 : k < nx + 4 := by omega
    have g_k4 : ¬ k = nx + 4 := by omega
    have f_k4 : ¬ nx + 4 = k := by omega
    have m_k4 : k < nx + 1 + 1 + 1 + 1 := by omega
    have n_k4 : ¬ k = nx + 1 + 1 + 1 + 1 := by omega
    have o_k4 : ¬ nx + 1 + 1 + 1 + 1 = k := by omega
    have l_k5 : k < nx + 5 := by omega
    have g_k5 : ¬ k = nx + 5 := by omega
    have f_k5 : ¬ nx + 5 = k := by omega
    have m_k5 : k < nx + 1 + 1 + 1 + 1 + 1 := by omega
    have n_k5 : ¬ k = nx + 1 + 1 + 1 + 1 + 1 := by omega
    have o_k5 : ¬ nx + 1 + 1 + 1 + 1 + 1 = k := by omega
    have l_k6 : k < nx + 6 := by omega
    have g_k6 : ¬ k = nx + 6 := by omega
    have f_k6 : ¬ nx + 6 = k := by omega
    have m_k6 : k < nx + 1 + 1 + 1 + 1 + 1 + 1 := by omega
    have n_k6 : ¬ k = nx + 1 + 1 + 1 + 1 + 1 + 1 := by omega
    have o_k6 : ¬ nx + 1 + 1 + 1 + 1 + 1 + 1 = k := by omega
    have l_t0 : t < nx := by omega
    have g_t0 : ¬ t = nx := by omega
    have f_t0 : ¬ nx = t := by omega
    have l_t1 : t < nx + 1 := by omega
    have g_t1 : ¬ t = nx + 1 := by omega
    have f_t1 : ¬ nx + 1 = t := by omega
    have l_t2 : t < nx + 2 := by omega
    have g_t2 : ¬ t = nx + 2 := by omega
    have f_t2 : ¬ nx + 2 = t := by omega
    have m_t2 : t < nx + 1 + 1 := by omega
    have n_t2 : ¬ t = nx + 1 + 1 := by omega
    have o_t2 : ¬ nx + 1 + 1 = t := by omega
    have l_t3 : t < nx + 3 := by omega
    have g_t3 : ¬ t = nx + 3 := by omega
    have f_t3 : ¬ nx + 3 = t := by omega
    have m_t3 : t < nx + 1 + 1 + 1 := by omega
    have n_t3 : ¬ t = nx + 1 + 1 + 1 := by omega
    have o_t3 : ¬ nx + 1 + 1 + 1 = t := by omega
    have l_t4 : t < nx + 4 := by omega
    have g_t4 : ¬ t = nx + 4 := by omega
    have f_t4 : ¬ nx + 4 = t := by omega
    have m_t4 : t < nx + 1 + 1 + 1 + 1 := by omega
    have n_t4 : ¬ t = nx + 1 + 1 + 1 + 1 := by omega
    have o_t4 : ¬ nx + 1 + 1 + 1 + 1 = t := by omega
    have l_t5 : t < nx + 5 := by omega
    have g_t5 : ¬ t = nx + 5 := by omega
    have f_t5 : ¬ nx + 5 = t := by omega
    have m_t5 : t < nx + 1 + 1 + 1 + 1 + 1 := by omega
    have n_t5 : ¬ t = nx + 1 + 1 + 1 + 1 + 1 := by omega
    have o_t5 : ¬ nx + 1 + 1 + 1 + 1 + 1 = t := by omega
    have l_t6 : t < nx + 6 := by omega
    have g_t6 : ¬ t = nx + 6 := by omega
    have f_t6 : ¬ nx + 6 = t := by omega
    have m_t6 : t < nx + 1 + 1 + 1 + 1 + 1 + 1 := by omega
    have n_t6 : ¬ t = nx + 1 + 1 + 1 + 1 + 1 + 1 := by omega
    have o_t6 : ¬ nx + 1 + 1 + 1 + 1 + 1 + 1 = t := by omega
    have l_s0 : s < nx := by omega
    have g_s0 : ¬ s = nx := by omega
    have f_s0 : ¬ nx = s := by omega
    have l_s1 : s < nx + 1 := by omega
    have g_s1 : ¬ s = nx + 1 := by omega
    have f_s1 : ¬ nx + 1 = s := by omega
    have l_s2 : s < nx + 2 := by omega
    have g_s2 : ¬ s = nx + 2 := by omega
    have f_s2 : ¬ nx + 2 = s := by omega
    have m_s2 : s < nx + 1 + 1 := by omega
    have n_s2 : ¬ s = nx + 1 + 1 := by omega
    have o_s2 : ¬ nx + 1 + 1 = s := by omega
    have l_s3 : s < nx + 3 := by omega
    have g_s3 : ¬ s = nx + 3 := by omega
    have f_s3 : ¬ nx + 3 = s := by omega
    have m_s3 : s < nx + 1 + 1 + 1 := by omega
    have n_s3 : ¬ s = nx + 1 + 1 + 1 := by omega
    have o_s3 : ¬ nx + 1 + 1 + 1 = s := by omega
    have l_s4 : s < nx + 4 := by omega
    have g_s4 : ¬ s = nx + 4 := by omega
    have f_s4 : ¬ nx + 4 = s := by omega
    have m_s4 : s < nx + 1 + 1 + 1 + 1 := by omega
    have n_s4 : ¬ s = nx + 1 + 1 + 1 + 1 := by omega
    have o_s4 : ¬ nx + 1 + 1 + 1 + 1 = s := by omega
    have l_s5 : s < nx + 5 := by omega
    have g_s5 : ¬ s = nx + 5 := by omega
    have f_s5 : ¬ nx + 5 = s := by omega
    have m_s5 : s < nx + 1 + 1 + 1 + 1 + 1 := by omega
    have n_s5 : ¬ s = nx + 1 + 1 + 1 + 1 + 1 := by omega
    have o_s5 : ¬ nx + 1 + 1 + 1 + 1 + 1 = s := by omega
    have l_s6 : s < nx + 6 := by omega
    have g_s6 : ¬ s = nx + 6 := by omega
    have f_s6 : ¬ nx + 6 = s := by omega
    have m_s6 : s < nx + 1 + 1 + 1 + 1 + 1 + 1 := by omega
    have n_s6 : ¬ s = nx + 1 + 1 + 1 + 1 + 1 + 1 := by omega
    have o_s6 : ¬ nx + 1 + 1 + 1 + 1 + 1 + 1 = s := by omega
    have l_w0 : w < nx := by omega
    have g_w0 : ¬ w = nx := by omega
    have f_w0 : ¬ nx = w := by omega
    have l_w1 : w < nx + 1 := by omega
    have g_w1 : ¬ w = nx + 1 := by omega
    have f_w1 : ¬ nx + 1 = w := by omega
    have l_w2 : w < nx + 2 := by omega
    have g_w2 : ¬ w = nx + 2 := by omega
    have f_w2 : ¬ nx + 2 = w := by omega
    have m_w2 : w < nx + 1 + 1 := by omega
    have n_w2 : ¬ w = nx + 1 + 1 := by omega
    have o_w2 : ¬ nx + 1 + 1 = w := by omega
    have l_w3 : w < nx + 3 := by omega
    have g_w3 : ¬ w = nx + 3 := by omega
    have f_w3 : ¬ nx + 3 = w := by omega
    have m_w3 : w < nx + 1 + 1 + 1 := by omega
    have n_w3 : ¬ w = nx + 1 + 1 + 1 := by omega
    have o_w3 : ¬ nx + 1 + 1 + 1 = w := by omega
    have l_w4 : w < nx + 4 := by omega
    have g_w4 : ¬ w = nx + 4 := by omega
    have f_w4 : ¬ nx + 4 = w := by omega
    have m_w4 : w < nx + 1 + 1 + 1 + 1 := by omega
    have n_w4 : ¬ w = nx + 1 + 1 + 1 + 1 := by omega
    have o_w4 : ¬ nx + 1 + 1 + 1 + 1 = w := by omega
    have l_w5 : w < nx + 5 := by omega
    have g_w5 : ¬ w = nx + 5 := by omega
    have f_w5 : ¬ nx + 5 = w := by omega
    have m_w5 : w < nx + 1 + 1 + 1 + 1 + 1 := by omega
    have n_w5 : ¬ w = nx + 1 + 1 + 1 + 1 + 1 := by omega
    have o_w5 : ¬ nx + 1 + 1 + 1 + 1 + 1 = w := by omega
    have l_w6 : w < nx + 6 := by omega
    have g_w6 : ¬ w = nx + 6 := by omega
    have f_w6 : ¬ nx + 6 = w := by omega
    have m_w6 : w < nx + 1 + 1 + 1 + 1 + 1 + 1 := by omega
    have n_w6 : ¬ w = nx + 1 + 1 + 1 + 1 + 1 + 1 := by omega
    have o_w6 : ¬ nx + 1 + 1 + 1 + 1 + 1 + 1 = w := by omega
    have e_qr : ¬ q = r := by omega
    have e_rq : ¬ r = q := by omega
    have l_q0 : q < nx := by omega
    have g_q0 : ¬ q = nx := by omega
    have f_q0 : ¬ nx = q := by omega
    have l_q1 : q < nx + 1 := by omega
    have g_q1 : ¬ q = nx + 1 := by omega
    have f_q1 : ¬ nx + 1 = q := by omega
    have l_q2 : q < nx + 2 := by omega
    have g_q2 : ¬ q = nx + 2 := by omega
    have f_q2 : ¬ nx + 2 = q := by omega
    have m_q2 : q < nx + 1 + 1 := by omega
    have n_q2 : ¬ q = nx + 1 + 1 := by omega
    have o_q2 : ¬ nx + 1 + 1 = q := by omega
    have l_q3 : q < nx + 3 := by omega
    have g_q3 : ¬ q = nx + 3 := by omega
    have f_q3 : ¬ nx + 3 = q := by omega
    have m_q3 : q < nx + 1 + 1 + 1 := by omega
    have n_q3 : ¬ q = nx + 1 + 1 + 1 := by omega
    have o_q3 : ¬ nx + 1 + 1 + 1 = q := by omega
    have l_q4 : q < nx + 4 := by omega
    have g_q4 : ¬ q = nx + 4 := by omega
    have f_q4 : ¬ nx + 4 = q := by omega
    have m_q4 : q < nx + 1 + 1 + 1 + 1 := by omega
    have n_q4 : ¬ q = nx + 1 + 1 + 1 + 1 := by omega
    have o_q4 : ¬ nx + 1 + 1 + 1 + 1 = q := by omega
    have l_q5 : q < nx + 5 := by omega
    have g_q5 : ¬ q = nx + 5 := by omega
    have f_q5 : ¬ nx + 5 = q := by omega
    have m_q5 : q < nx + 1 + 1 + 1 + 1 + 1 := by omega
    have n_q5 : ¬ q = nx + 1 + 1 + 1 + 1 + 1 := by omega
    have o_q5 : ¬ nx + 1 + 1 + 1 + 1 + 1 = q := by omega
    have l_q6 : q < nx + 6 := by omega
    have g_q6 : ¬ q = nx + 6 := by omega
    have f_q6 : ¬ nx + 6 = q := by omega
    have m_q6 : q < nx + 1 + 1 + 1 + 1 + 1 + 1 := by omega
    have n_q6 : ¬ q = nx + 1 + 1 + 1 + 1 + 1 + 1 := by omega
    have o_q6 : ¬ nx + 1 + 1 + 1 + 1 + 1 + 1 = q := by omega
    have l_r0 : r < nx := by omega
    have g_r0 : ¬ r = nx := by omega
    have f_r0 : ¬ nx = r := by omega
    have l_r1 : r < nx + 1 := by omega
    have g_r1 : ¬ r = nx + 1 := by omega
    have f_r1 : ¬ nx + 1 = r := by omega
    have l_r2 : r < nx + 2 := by omega
    have g_r2 : ¬ r = nx + 2 := by omega
    have f_r2 : ¬ nx + 2 = r := by omega
    have m_r2 : r < nx + 1 + 1 := by omega
    have n_r2 : ¬ r = nx + 1 + 1 := by omega
    have o_r2 : ¬ nx + 1 + 1 = r := by omega
    have l_r3 : r < nx + 3 := by omega
    have g_r3 : ¬ r = nx + 3 := by omega
    have f_r3 : ¬ nx + 3 = r := by omega
    have m_r3 : r < nx + 1 + 1 + 1 := by omega
    have n_r3 : ¬ r = nx + 1 + 1 + 1 := by omega
    have o_r3 : ¬ nx + 1 + 1 + 1 = r := by omega
    have l_r4 : r < nx + 4 := by omega
    have g_r4 : ¬ r = nx + 4 := by omega
    have f_r4 : ¬ nx + 4 = r := by omega
    have m_r4 : r < nx + 1 + 1 + 1 + 1 := by omega
    have n_r4 : ¬ r = nx + 1 + 1 + 1 + 1 := by omega
    have o_r4 : ¬ nx + 1 + 1 + 1 + 1 = r := by omega
    have l_r5 : r < nx + 5 := by omega
    have g_r5 : ¬ r = nx + 5 := by omega
    have f_r5 : ¬ nx + 5 = r := by omega
    have m_r5 : r < nx + 1 + 1 + 1 + 1 + 1 := by omega
    have n_r5 : ¬ r = nx + 1 + 1 + 1 + 1 + 1 := by omega
    have o_r5 : ¬ nx + 1 + 1 + 1 + 1 + 1 = r := by omega
    have l_r6 : r < nx + 6 := by omega
    have g_r6 : ¬ r = nx + 6 := by omega
    have f_r6 : ¬ nx + 6 = r := by omega
    have m_r6 : r < nx + 1 + 1 + 1 + 1 + 1 + 1 := by omega
    have n_r6 : ¬ r = nx + 1 + 1 + 1 + 1 + 1 + 1 := by omega
    have o_r6 : ¬ nx + 1 + 1 + 1 + 1 + 1 + 1 = r := by omega
    have c0 : (40 : Int) ≤ (d : Int) := by omega
    refine gen_of_aw (rs := [_]) [] [] [] mixed Try.func44 rfl (by kernel_rfl) (by kernel_rfl) (by simp [Try.ntmps44]) rfl ?_
    simp [c0, nodeM, Try.results44, e_kt, e_ks, e_kw, e_ts, e_tw, e_sw, l_k1, l_t1, l_s1, l_w1, f_r0, l_r1]
    exact ⟨[(nx, q)], by simp [e_kt, e_tk, e_ks, e_sk, e_kw, e_wk, e_ts, e_st, e_tw, e_wt, e_sw, e_ws, g_k0, g_t0, g_s0, g_w0, e_qr, e_rq, g_r0]⟩
  | succ f ih =>
    intro d page lo hi c nx q h hq hp hd hc1 hc2 hc3
    have h' := h
    have hq' := hq
    obtain ⟨ht, ⟨hs, hr, hw, sr, sw, rw_⟩, ts, tr, tw⟩ := h
    obtain ⟨hk, hqn, kt, ks, kw, qr⟩ := hq
    have e_kt : ¬ k = t := by omega
    have e_tk : ¬ t = k := by omega
    have e_ks : ¬ k = s := by omega
    have e_sk : ¬ s = k := by omega
    have e_kw : ¬ k = w := by omega
    have e_wk : ¬ w = k := by omega
    have e_ts : ¬ t = s := by omega
    have e_st : ¬ s = t := by omega
    have e_tw : ¬ t = w := by omega
    have e_wt : ¬ w = t := by omega
    have e_sw : ¬ s = w := by omega
    have e_ws : ¬ w = s := by omega
    have l_k0 : k < nx := by omega
    have g_k0 : ¬ k = nx := by omega
    have f_k0 : ¬ nx = k := by omega
    have l_k1 : k < nx + 1 := by omega
    have g_k1 : ¬ k = nx + 1 := by omega
    have f_k1 : ¬ nx + 1 = k := by omega
    have l_k2 : k < nx + 2 := by omega
    have g_k2 : ¬ k = nx + 2 := by omega
    have f_k2 : ¬ nx + 2 = k := by omega
    have m_k2 : k < nx + 1 + 1 := by omega
    have n_k2 : ¬ k = nx + 1 + 1 := by omega
    have o_k2 : ¬ nx + 1 + 1 = k := by omega
    have l_k3 : k < nx + 3 := by omega
    have g_k3 : ¬ k = nx + 3 := by omega
    have f_k3 : ¬ nx + 3 = k := by omega
    have m_k3 : k < nx + 1 + 1 + 1 := by omega
    have n_k3 : ¬ k = nx + 1 + 1 + 1 := by omega
    have o_k3 : ¬ nx + 1 + 1 + 1 = k := by omega
    have l_k4 : k < nx + 4 := by omega
    have g_k4 : ¬ k = nx + 4 := by omega
    have f_k4 : ¬ nx + 4 = k := by omega
    have m_k4 : k < nx + 1 + 1 + 1 + 1 := by omega
    have n_k4 : ¬ k = nx + 1 + 1 + 1 + 1 := by omega
    have o_k4 : ¬ nx + 1 + 1 + 1 + 1 = k := by omega
    have l_k5 : k < nx + 5 := by omega
    have g_k5 : ¬ k = nx + 5 := by omega
    have f_k5 : ¬ nx + 5 = k := by omega
    have m_k5 : k < nx + 1 + 1 + 1 + 1 + 1 := by omega
    have n_k5 : ¬ k = nx + 1 + 1 + 1 + 1 + 1 := by omega
    have o_k5 : ¬ nx + 1 + 1 + 1 + 1 + 1 = k := by omega
    have l_k6 : k < nx + 6 := by omega
    have g_k6 : ¬ k = nx + 6 := by omega
    have f_k6 : ¬ nx + 6 = k := by omega
    have m_k6 : k < nx + 1 + 1 + 1 + 1 + 1 + 1 := by omega
    have n_k6 : ¬ k = nx + 1 + 1 + 1 + 1 + 1 + 1 := by omega
    have o_k6 : ¬ nx + 1 + 1 + 1 + 1 + 1 + 1 = k := by omega
    have l_t0 : t < nx := by omega
    have g_t0 : ¬ t = nx := by omega
    have f_t0 : ¬ nx = t := by omega
    have l_t1 : t < nx + 1 := by omega
    have g_t1 : ¬ t = nx + 1 := by omega
    have f_t1 : ¬ nx + 1 = t := by omega
    have l_t2 : t < nx + 2 := by omega
    have g_t2 : ¬ t = nx + 2 := by omega
    have f_t2 : ¬ nx + 2 = t := by omega
    have m_t2 : t < nx + 1 + 1 := by omega
    have n_t2 : ¬ t = nx + 1 + 1 := by omega
    have o_t2 : ¬ nx + 1 + 1 = t := by omega
    have l_t3 : t < nx + 3 := by omega
    have g_t3 : ¬ t = nx + 3 := by omega
    have f_t3 : ¬ nx + 3 = t := by omega
    have m_t3 : t < nx + 1 + 1 + 1 := by omega
    have n_t3 : ¬ t = nx + 1 + 1 + 1 := by omega
    have o_t3 : ¬ nx + 1 + 1 + 1 = t := by omega
    have l_t4 : t < nx + 4 := by omega
    have g_t4 : ¬ t = nx + 4 := by omega
    have f_t4 : ¬ nx + 4 = t := by omega
    have m_t4 : t < nx + 1 + 1 + 1 + 1 := by omega
    have n_t4 : ¬ t = nx + 1 + 1 + 1 + 1 := by omega
    have o_t4 : ¬ nx + 1 + 1 + 1 + 1 = t := by omega
    have l_t5 : t < nx + 5 := by omega
    have g_t5 : ¬ t = nx + 5 := by omega
    have f_t5 : ¬ nx + 5 = t := by omega
    have m_t5 : t < nx + 1 + 1 + 1 + 1 + 1 := by omega
    have n_t5 : ¬ t = nx + 1 + 1 + 1 + 1 + 1 := by omega
    have o_t5 : ¬ nx + 1 + 1 + 1 + 1 + 1 = t := by omega
    have l_t6 : t < nx + 6 := by omega
    have g_t6 : ¬ t = nx + 6 := by omega
    have f_t6 : ¬ nx + 6 = t := by omega
    have m_t6 : t < nx + 1 + 1 + 1 + 1 + 1 + 1 := by omega
    have n_t6 : ¬ t = nx + 1 + 1 + 1 + 1 + 1 + 1 := by omega
    have o_t6 : ¬ nx + 1 + 1 + 1 + 1 + 1 + 1 = t := by omega
    have l_s0 : s < nx := by omega
    have g_s0 : ¬ s = nx := by omega
    have f_s0 : ¬ nx = s := by omega
    have l_s1 : s < nx + 1 := by omega
    have g_s1 : ¬ s = nx + 1 := by omega
    have f_s1 : ¬ nx + 1 = s := by omega
    have l_s2 : s < nx + 2 := by omega
    have g_s2 : ¬ s = nx + 2 := by omega
    have f_s2 : ¬ nx + 2 = s := by omega
    have m_s2 : s < nx + 1 + 1 := by omega
    have n_s2 : ¬ s = nx + 1 + 1 := by omega
    have o_s2 : ¬ nx + 1 + 1 = s := by omega
    have l_s3 : s < nx + 3 := by omega
    have g_s3 : ¬ s = nx + 3 := by omega
    have f_s3 : ¬ nx + 3 = s := by omega
    have m_s3 : s < nx + 1 + 1 + 1 := by omega
    have n_s3 : ¬ s = nx + 1 + 1 + 1 := by omega
    have o_s3 : ¬ nx + 1 + 1 + 1 = s := by omega
    have l_s4 : s < nx + 4 := by omega
    have g_s4 : ¬ s = nx + 4 := by omega
    have f_s4 : ¬ nx + 4 = s := by omega
    have m_s4 : s < nx + 1 + 1 + 1 + 1 := by omega
    have n_s4 : ¬ s = nx + 1 + 1 + 1 + 1 := by omega
    have o_s4 : ¬ nx + 1 + 1 + 1 + 1 = s := by omega
    have l_s5 : s < nx + 5 := by omega
    have g_s5 : ¬ s = nx + 5 := by omega
    have f_s5 : ¬ nx + 5 = s := by omega
    have m_s5 : s < nx + 1 + 1 + 1 + 1 + 1 := by omega
    have n_s5 : ¬ s = nx + 1 + 1 + 1 + 1 + 1 := by omega
    have o_s5 : ¬ nx + 1 + 1 + 1 + 1 + 1 = s := by omega
    have l_s6 : s < nx + 6 := by omega
    have g_s6 : ¬ s = nx + 6 := by omega
    have f_s6 : ¬ nx + 6 = s := by omega
    have m_s6 : s < nx + 1 + 1 + 1 + 1 + 1 + 1 := by omega
    have n_s6 : ¬ s = nx + 1 + 1 + 1 + 1 + 1 + 1 := by omega
    have o_s6 : ¬ nx + 1 + 1 + 1 + 1 + 1 + 1 = s := by omega
    have l_w0 : w < nx := by omega
    have g_w0 : ¬ w = nx := by omega
    have f_w0 : ¬ nx = w := by omega
    have l_w1 : w < nx + 1 := by omega
    have g_w1 : ¬ w = nx + 1 := by omega
    have f_w1 : ¬ nx + 1 = w := by omega
    have l_w2 : w < nx + 2 := by omega
    have g_w2 : ¬ w = nx + 2 := by omega
    have f_w2 : ¬ nx + 2 = w := by omega
    have m_w2 : w < nx + 1 + 1 := by omega
    have n_w2 : ¬ w = nx + 1 + 1 := by omega
    have o_w2 : ¬ nx + 1 + 1 = w := by omega
    have l_w3 : w < nx + 3 := by omega
    have g_w3 : ¬ w = nx + 3 := by omega
    have f_w3 : ¬ nx + 3 = w := by omega
    have m_w3 : w < nx + 1 + 1 + 1 := by omega
    have n_w3 : ¬ w = nx + 1 + 1 + 1 := by omega
    have o_w3 : ¬ nx + 1 + 1 + 1 = w := by omega
    have l_w4 : w < nx + 4 := by omega
    have g_w4 : ¬ w = nx + 4 := by omega
    have f_w4 : ¬ nx + 4 = w := by omega
    have m_w4 : w < nx + 1 + 1 + 1 + 1 := by omega
    have n_w4 : ¬ w = nx + 1 + 1 + 1 + 1 := by omega
    have o_w4 : ¬ nx + 1 + 1 + 1 + 1 = w := by omega
    have l_w5 : w < nx + 5 := by omega
    have g_w5 : ¬ w = nx + 5 := by omega
    have f_w5 : ¬ nx + 5 = w := by omega
    have m_w5 : w < nx + 1 + 1 + 1 + 1 + 1 := by omega
    have n_w5 : ¬ w = nx + 1 + 1 + 1 + 1 + 1 := by omega
    have o_w5 : ¬ nx + 1 + 1 + 1 + 1 + 1 = w := by omega
    have l_w6 : w < nx + 6 := by omega
    have g_w6 : ¬ w = nx + 6 := by omega
    have f_w6 : ¬ nx + 6 = w := by omega
    have m_w6 : w < nx + 1 + 1 + 1 + 1 + 1 + 1 := by omega
    have n_w6 : ¬ w = nx + 1 + 1 + 1 + 1 + 1 + 1 := by omega
    have o_w6 : ¬ nx + 1 + 1 + 1 + 1 + 1 + 1 = w := by omega
    have e_qr : ¬ q = r := by omega
    have e_rq : ¬ r = q := by omega
    have l_q0 : q < nx := by omega
    have g_q0 : ¬ q = nx := by omega
    have f_q0 : ¬ nx = q := by omega
    have l_q1 : q < nx + 1 := by omega
    have g_q1 : ¬ q = nx + 1 := by omega
    have f_q1 : ¬ nx + 1 = q := by omega
    have l_q2 : q < nx + 2 := by omega
    have g_q2 : ¬ q = nx + 2 := by omega
    have f_q2 : ¬ nx + 2 = q := by omega
    have m_q2 : q < nx + 1 + 1 := by omega
    have n_q2 : ¬ q = nx + 1 + 1 := by omega
    have o_q2 : ¬ nx + 1 + 1 = q := by omega
    have l_q3 : q < nx + 3 := by omega
    have g_q3 : ¬ q = nx + 3 := by omega
    have f_q3 : ¬ nx + 3 = q := by omega
    have m_q3 : q < nx + 1 + 1 + 1 := by omega
    have n_q3 : ¬ q = nx + 1 + 1 + 1 := by omega
    have o_q3 : ¬ nx + 1 + 1 + 1 = q := by omega
    have l_q4 : q < nx + 4 := by omega
    have g_q4 : ¬ q = nx + 4 := by omega
    have f_q4 : ¬ nx + 4 = q := by omega
    have m_q4 : q < nx + 1 + 1 + 1 + 1 := by omega
    have n_q4 : ¬ q = nx + 1 + 1 + 1 + 1 := by omega
    have o_q4 : ¬ nx + 1 + 1 + 1 + 1 = q := by omega
    have l_q5 : q < nx + 5 := by omega
    have g_q5 : ¬ q = nx + 5 := by omega
    have f_q5 : ¬ nx + 5 = q := by omega
    have m_q5 : q < nx + 1 + 1 + 1 + 1 + 1 := by omega
    have n_q5 : ¬ q = nx + 1 + 1 + 1 + 1 + 1 := by omega
    have o_q5 : ¬ nx + 1 + 1 + 1 + 1 + 1 = q := by omega
    have l_q6 : q < nx + 6 := by omega
    have g_q6 : ¬ q = nx + 6 := by omega
    have f_q6 : ¬ nx + 6 = q := by omega
    have m_q6 : q < nx + 1 + 1 + 1 + 1 + 1 + 1 := by omega
    have n_q6 : ¬ q = nx + 1 + 1 + 1 + 1 + 1 + 1 := by omega
    have o_q6 : ¬ nx + 1 + 1 + 1 + 1 + 1 + 1 = q := by omega
    have l_r0 : r < nx := by omega
    have g_r0 : ¬ r = nx := by omega
    have f_r0 : ¬ nx = r := by omega
    have l_r1 : r < nx + 1 := by omega
    have g_r1 : ¬ r = nx + 1 := by omega
    have f_r1 : ¬ nx + 1 = r := by omega
    have l_r2 : r < nx + 2 := by omega
    have g_r2 : ¬ r = nx + 2 := by omega
    have f_r2 : ¬ nx + 2 = r := by omega
    have m_r2 : r < nx + 1 + 1 := by omega
    have n_r2 : ¬ r = nx + 1 + 1 := by omega
    have o_r2 : ¬ nx + 1 + 1 = r := by omega
    have l_r3 : r < nx + 3 := by omega
    have g_r3 : ¬ r = nx + 3 := by omega
    have f_r3 : ¬ nx + 3 = r := by omega
    have m_r3 : r < nx + 1 + 1 + 1 := by omega
    have n_r3 : ¬ r = nx + 1 + 1 + 1 := by omega
    have o_r3 : ¬ nx + 1 + 1 + 1 = r := by omega
    have l_r4 : r < nx + 4 := by omega
    have g_r4 : ¬ r = nx + 4 := by omega
    have f_r4 : ¬ nx + 4 = r := by omega
    have m_r4 : r < nx + 1 + 1 + 1 + 1 := by omega
    have n_r4 : ¬ r = nx + 1 + 1 + 1 + 1 := by omega
    have o_r4 : ¬ nx + 1 + 1 + 1 + 1 = r := by omega
    have l_r5 : r < nx + 5 := by omega
    have g_r5 : ¬ r = nx + 5 := by omega
    have f_r5 : ¬ nx + 5 = r := by omega
    have m_r5 : r < nx + 1 + 1 + 1 + 1 + 1 := by omega
    have n_r5 : ¬ r = nx + 1 + 1 + 1 + 1 + 1 := by omega
    have o_r5 : ¬ nx + 1 + 1 + 1 + 1 + 1 = r := by omega
    have l_r6 : r < nx + 6 := by omega
    have g_r6 : ¬ r = nx + 6 := by omega
    have f_r6 : ¬ nx + 6 = r := by omega
    have m_r6 : r < nx + 1 + 1 + 1 + 1 + 1 + 1 := by omega
    have n_r6 : ¬ r = nx + 1 + 1 + 1 + 1 + 1 + 1 := by omega
    have o_r6 : ¬ nx + 1 + 1 + 1 + 1 + 1 + 1 = r := by omega
    have c0 : ¬ (40 : Int) ≤ (d : Int) := by omega
    have hsl := seen_len hS.len hc1
    have hct := contains64 c.seen page hsl
    obtain ⟨RR, hRR⟩ : ∃ RR, RR = nodeM S (f + 1) d page lo hi c := ⟨_, rfl⟩
    rw [← hRR]
    refine gen_of_aw (rs := [_]) [] [] [] mixed Try.func44 rfl (by kernel_rfl) (by kernel_rfl) (by simp [Try.ntmps44]) rfl ?_
    simp [c0, ckB, ckO, trB, stB, stR, treO, stoO, thO]
    refine pcall_of hct (by simp) ?_
    by_cases c1 : page ∈ c.seen
    · have e : RR = (c, 10) := by rw [hRR]; unfold nodeM; rw [if_pos (.inl c1)]
      rw [e]
      simp [c1, Try.results44, e_kt, e_ks, e_kw, e_ts, e_tw, e_sw, l_k1, l_t1, l_s1, l_w1, f_r0, l_r1]
      exact ⟨[(nx, q)], by simp [e_kt, e_tk, e_ks, e_sk, e_kw, e_wk, e_ts, e_st, e_tw, e_wt, e_sw, e_ws, g_k0, g_t0, g_s0, g_w0, e_qr, e_rq, g_r0]⟩
    by_cases c2 : page < 1
    · have e : RR = (c, 10) := by rw [hRR]; unfold nodeM; rw [if_pos (.inr c2)]
      rw [e]
      simp [c1, c2, Try.results44, e_kt, e_ks, e_kw, e_ts, e_tw, e_sw, l_k1, l_t1, l_s1, l_w1, f_r0, l_r1]
      exact ⟨[(nx, q)], by simp [e_kt, e_tk, e_ks, e_sk, e_kw, e_wk, e_ts, e_st, e_tw, e_wt, e_sw, e_ws, g_k0, g_t0, g_s0, g_w0, e_qr, e_rq, g_r0]⟩
    have hnot : ¬ (page ∈ c.seen ∨ page < 1) := by rintro (h | h); exact c1 h; exact c2 h
    have w11 : IntKind.i64.wrap 1 = 1 := by decide
    simp [c1, c2, e_kt, e_ks, e_kw, e_qr]
    have hsm := tload_small hS page
    refine ⟨by omega, by omega, ?_⟩
    refine gcall_of0 (load46 t s r w (nx + 1) (h'.up (by omega)) S hS root page hp) (by simp) (by simp [treO, stoO, thO, sub1, e_tk, e_sk, e_wk, e_st, e_wt, e_ws]) (by simp [sub1, g_r0]) rfl ?_
    rcases tload_cases S page with ⟨d1, d2⟩ | ⟨d1, d2⟩
    · have hg := (tload_inv d1).1
      have hM : nodeM S (f + 1) d page lo hi c = if fewK d (tload S page).1 ≤ (tload S page).1.ks.length ∧ fitB (tload S page).1 lo hi = true then
          if (tload S page).1.lf = true then if 0 ≤ c.dep ∧ c.dep ≠ d then (ckAdd c page, 10) else (⟨c.seen ++ [page], d⟩, 0)
          else foldK (nodeM S f (d + 1)) lo (tload S page).1.ks hi (tload S page).1.vs (ckAdd c page) else (ckAdd c page, 10) := by
        conv => lhs; unfold nodeM
        rw [if_neg hnot, if_pos d1]
      generalize tload S page = qq at *
      obtain ⟨n, e⟩ := qq
      simp only at d1 d2 hsm hg hM ⊢
      subst d1
      have hseen : SeenOk S (ckAdd c page) := ⟨by
        refine List.nodup_append.2 ⟨hc1.nd, by simp, fun a ha b hb e => ?_⟩
        rw [List.mem_singleton] at hb; subst hb; subst e; exact c1 ha, fun p hp => by
        rcases List.mem_append.1 hp with hp | hp
        · exact hc1.ex p hp
        · rw [List.mem_singleton] at hp; subst hp; rw [hg]; rfl⟩
      have hvl := d2.form
      have hkl := d2.len
      have hfit := fits65 n lo hi (by omega)
      by_cases c4 : n.lf = true
      · by_cases c5 : d = 0
        · subst c5
          have hfw : fewK 0 n = 1 := by simp [fewK]
          by_cases c6 : 1 ≤ n.ks.length
          · have c6' : ¬ ((n.ks.length : Int) < 1) := by omega
            have c6n : ¬ (n.ks.length < 1) := by omega
            cases c7 : fitB n lo hi with
            | true =>
              rw [c7] at hfit
              by_cases c8 : 0 ≤ c.dep ∧ c.dep ≠ (0 : Nat)
              · have e : RR = (ckAdd c page, 10) := by rw [hRR, hM, if_pos ⟨by rw [hfw]; exact c6, c7⟩, if_pos c4, if_pos c8]
                have c8' : (c.dep != 0) = true := by have := c8.2; simpa using this
                rw [e]
                simp [trB, stB, stR, treO, stoO, thO, c4, c6', e_tk, e_sk, e_wk, e_st, e_wt, e_ws, f_k1, f_t1, f_s1, f_w1, g_r0]
                refine pcall_of hfit (by simp [c4]) ?_
                simp [c8.1, c8', ckAdd, Try.results44, e_kt, e_ks, e_kw, e_ts, e_tw, e_sw, l_k1, g_k1, l_t1, l_s1, l_w1, f_r0, l_r1]
                exact ⟨[], by simp [e_kt, e_ks, e_kw, e_ts, e_st, e_tw, e_wt, e_sw, e_ws, g_k1, g_t1, g_s1, g_w1, f_r0]⟩
              · have e : RR = (⟨c.seen ++ [page], (0 : Nat)⟩, 0) := by rw [hRR, hM, if_pos ⟨by rw [hfw]; exact c6, c7⟩, if_pos c4, if_neg c8]
                rw [e]
                simp [trB, stB, stR, treO, stoO, thO, c4, c6', e_tk, e_sk, e_wk, e_st, e_wt, e_ws, f_k1, f_t1, f_s1, f_w1, g_r0]
                refine pcall_of hfit (by simp [c4]) ?_
                by_cases c9 : 0 ≤ c.dep
                · have c8e : c.dep = ((0 : Nat) : Int) := Classical.not_not.1 fun h => c8 ⟨c9, h⟩
                  have c8' : (c.dep != 0) = false := by simpa using c8e
                  simp [c9, c8', Try.results44, e_kt, e_ks, e_kw, e_ts, e_tw, e_sw, l_k1, g_k1, l_t1, l_s1, l_w1, f_r0, l_r1]
                  exact ⟨[], by simp [e_kt, e_tk, e_ks, e_sk, e_kw, e_wk, e_ts, e_st, e_tw, e_wt, e_sw, e_ws, g_t1, g_s1, g_w1, f_r0]⟩
                · simp [c9, Try.results44, e_kt, e_ks, e_kw, e_ts, e_tw, e_sw, l_k1, g_k1, l_t1, l_s1, l_w1, f_r0, l_r1]
                  exact ⟨[], by simp [e_kt, e_tk, e_ks, e_sk, e_kw, e_wk, e_ts, e_st, e_tw, e_wt, e_sw, e_ws, g_t1, g_s1, g_w1, f_r0]⟩
            | false =>
              rw [c7] at hfit
              have e : RR = (ckAdd c page, 10) := by rw [hRR, hM, if_neg (by rw [c7]; simp)]
              rw [e]
              simp [trB, stB, stR, treO, stoO, thO, c4, c6', e_tk, e_sk, e_wk, e_st, e_wt, e_ws, f_k1, f_t1, f_s1, f_w1, g_r0]
              refine pcall_of hfit (by simp [c4]) ?_
              simp [ckAdd, Try.results44, e_kt, e_ks, e_kw, e_ts, e_tw, e_sw, l_k1, l_t1, l_s1, l_w1, f_r0, l_r1]
              exact ⟨[], by simp [e_kt, e_ks, e_kw, e_ts, e_st, e_tw, e_wt, e_sw, e_ws, g_k1, g_t1, g_s1, g_w1, f_r0]⟩
          · have c6' : ((n.ks.length : Int) < 1) := by omega
            have c6n : (n.ks.length < 1) := by omega
            have e : RR = (ckAdd c page, 10) := by rw [hRR, hM, if_neg (fun h => c6 (hfw ▸ h.1))]
            rw [e]
            simp [trB, stB, stR, treO, stoO, thO, c4, c6', ckAdd, Try.results44, e_kt, e_tk, e_ks, e_sk, e_kw, e_wk, e_ts, e_st, e_tw, e_wt, e_sw, e_ws, l_k1, f_k1, l_t1, f_t1, l_s1, f_s1, l_w1, f_w1, g_r0, f_r0, l_r1]
            exact ⟨[], by simp [e_kt, e_ks, e_kw, e_ts, e_st, e_tw, e_wt, e_sw, e_ws, g_k1, g_t1, g_s1, g_w1, f_r0]⟩
        · have c5' : ((d : Int) == 0) = false := by simp; omega
          have hfw : fewK d n = 2 := by simp [fewK, c5, c4]
          by_cases c6 : 2 ≤ n.ks.length
          · have c6' : ¬ ((n.ks.length : Int) < 2) := by omega
            have c6n : ¬ (n.ks.length < 2) := by omega
            cases c7 : fitB n lo hi with
            | true =>
              rw [c7] at hfit
              by_cases c8 : 0 ≤ c.dep ∧ c.dep ≠ (d : Nat)
              · have e : RR = (ckAdd c page, 10) := by rw [hRR, hM, if_pos ⟨by rw [hfw]; exact c6, c7⟩, if_pos c4, if_pos c8]
                have c8' : (c.dep != (d : Int)) = true := by have := c8.2; simpa using this
                rw [e]
                simp [trB, stB, stR, treO, stoO, thO, c4, c5', c6', e_tk, e_sk, e_wk, e_st, e_wt, e_ws, f_k1, f_t1, f_s1, f_w1, g_r0]
                refine pcall_of hfit (by simp [c4]) ?_
                simp [c8.1, c8', ckAdd, Try.results44, e_kt, e_ks, e_kw, e_ts, e_tw, e_sw, l_k1, g_k1, l_t1, l_s1, l_w1, f_r0, l_r1]
                exact ⟨[], by simp [e_kt, e_ks, e_kw, e_ts, e_st, e_tw, e_wt, e_sw, e_ws, g_k1, g_t1, g_s1, g_w1, f_r0]⟩
              · have e : RR = (⟨c.seen ++ [page], (d : Nat)⟩, 0) := by rw [hRR, hM, if_pos ⟨by rw [hfw]; exact c6, c7⟩, if_pos c4, if_neg c8]
                rw [e]
                simp [trB, stB, stR, treO, stoO, thO, c4, c5', c6', e_tk, e_sk, e_wk, e_st, e_wt, e_ws, f_k1, f_t1, f_s1, f_w1, g_r0]
                refine pcall_of hfit (by simp [c4]) ?_
                by_cases c9 : 0 ≤ c.dep
                · have c8e : c.dep = ((d : Nat) : Int) := Classical.not_not.1 fun h => c8 ⟨c9, h⟩
                  have c8' : (c.dep != (d : Int)) = false := by simpa using c8e
                  simp [c9, c8', Try.results44, e_kt, e_ks, e_kw, e_ts, e_tw, e_sw, l_k1, g_k1, l_t1, l_s1, l_w1, f_r0, l_r1]
                  exact ⟨[], by simp [e_kt, e_tk, e_ks, e_sk, e_kw, e_wk, e_ts, e_st, e_tw, e_wt, e_sw, e_ws, g_t1, g_s1, g_w1, f_r0]⟩
                · simp [c9, Try.results44, e_kt, e_ks, e_kw, e_ts, e_tw, e_sw, l_k1, g_k1, l_t1, l_s1, l_w1, f_r0, l_r1]
                  exact ⟨[], by simp [e_kt, e_tk, e_ks, e_sk, e_kw, e_wk, e_ts, e_st, e_tw, e_wt, e_sw, e_ws, g_t1, g_s1, g_w1, f_r0]⟩
            | false =>
              rw [c7] at hfit
              have e : RR = (ckAdd c page, 10) := by rw [hRR, hM, if_neg (by rw [c7]; simp)]
              rw [e]
              simp [trB, stB, stR, treO, stoO, thO, c4, c5', c6', e_tk, e_sk, e_wk, e_st, e_wt, e_ws, f_k1, f_t1, f_s1, f_w1, g_r0]
              refine pcall_of hfit (by simp [c4]) ?_
              simp [ckAdd, Try.results44, e_kt, e_ks, e_kw, e_ts, e_tw, e_sw, l_k1, l_t1, l_s1, l_w1, f_r0, l_r1]
              exact ⟨[], by simp [e_kt, e_ks, e_kw, e_ts, e_st, e_tw, e_wt, e_sw, e_ws, g_k1, g_t1, g_s1, g_w1, f_r0]⟩
          · have c6' : ((n.ks.length : Int) < 2) := by omega
            have c6n : (n.ks.length < 2) := by omega
            have e : RR = (ckAdd c page, 10) := by rw [hRR, hM, if_neg (fun h => c6 (hfw ▸ h.1))]
            rw [e]
            simp [trB, stB, stR, treO, stoO, thO, c4, c5', c6', ckAdd, Try.results44, e_kt, e_tk, e_ks, e_sk, e_kw, e_wk, e_ts, e_st, e_tw, e_wt, e_sw, e_ws, l_k1, f_k1, l_t1, f_t1, l_s1, f_s1, l_w1, f_w1, g_r0, f_r0, l_r1]
            exact ⟨[], by simp [e_kt, e_ks, e_kw, e_ts, e_st, e_tw, e_wt, e_sw, e_ws, g_k1, g_t1, g_s1, g_w1, f_r0]⟩
      · have c4' : n.lf = false := Bool.eq_false_iff.2 c4
        by_cases c5 : d = 0
        · subst c5
          have hfw : fewK 0 n = 1 := by simp [fewK]
          have hl1 := d2.inner c4'
          have c6' : ¬ ((n.ks.length : Int) < 1) := by omega
          have c6z : ¬ (n.ks = []) := fun h => by rw [h] at hl1; simp at hl1
          cases c7 : fitB n lo hi with
          | false =>
            rw [c7] at hfit
            have e : RR = (ckAdd c page, 10) := by rw [hRR, hM, if_neg (by rw [c7]; simp)]
            rw [e]
            simp [trB, stB, stR, treO, stoO, thO, c4', c6', e_tk, e_sk, e_wk, e_st, e_wt, e_ws, f_k1, f_t1, f_s1, f_w1, g_r0]
            refine pcall_of hfit (by simp [c4']) ?_
            simp [ckAdd, Try.results44, e_kt, e_ks, e_kw, e_ts, e_tw, e_sw, l_k1, l_t1, l_s1, l_w1, f_r0, l_r1]
            exact ⟨[], by simp [e_kt, e_ks, e_kw, e_ts, e_st, e_tw, e_wt, e_sw, e_ws, g_k1, g_t1, g_s1, g_w1, f_r0]⟩
          | true =>
            rw [c7] at hfit
            have e : RR = foldK (nodeM S f (0 + 1)) lo n.ks hi n.vs (ckAdd c page) := by rw [hRR, hM, if_pos ⟨by rw [hfw]; exact hl1, c7⟩, if_neg c4]
            simp [trB, stB, stR, treO, stoO, thO, c4', c6', e_tk, e_sk, e_wk, e_st, e_wt, e_ws, f_k1, f_t1, f_s1, f_w1, g_r0]
            refine pcall_of hfit (by simp [c4']) ?_
            simp
            rw [c4'] at hvl
            simp only [Bool.false_eq_true, if_false] at hvl
            refine aw_loop (fun y : Nat × Ck => y.1 ≤ n.vs.length ∧ (if y.1 = n.vs.length then RR = (y.2, 0) else RR = foldK (nodeM S f (0 + 1)) (loAt lo n.ks y.1) (n.ks.drop y.1) hi (n.vs.drop y.1) y.2) ∧ SeenOk S y.2 ∧ -1 ≤ y.2.dep ∧ y.2.dep ≤ 40)
              (fun y => [(0, .obj k 0), (2, .p (.int (0 : Nat))), (3, .p (.str lo)), (4, .p (.str (hi.getD []))), (5, .p (.bool hi.isSome)), (13, .obj (nx + 1) 0), (95, .p (.sl (n.vs.map PC.int))), (96, .p (.int n.vs.length)), (97, .p (.int y.1))])
              (fun y => ⟨[(nx + 1, ⟨56, 3, [.p (.bool false), .p (.sl (n.ks.map PC.str)), .p (.sl (n.vs.map PC.int))]⟩), (k, ckO t nx y.2), (t, treO s root), (s, stoO r w S), (w, thO S)], [(nx, 3, 1), (r, 56, 3)], nx + 2⟩) (fun y => n.vs.length - y.1) (0, ckAdd c page) ⟨by simp, by rw [if_neg (by omega)]; simpa [loAt] using e, hseen, hc2, hc3⟩ _ (AS.le_refl _ _) (leN_id (by simp [ckO, ckAdd, treO, stoO, thO, e_kt, e_ks, e_kw, e_ts, e_st, e_tw, e_wt, e_sw, e_ws, g_k1, f_k1, l_k2, g_t1, f_t1, l_t2, g_s1, f_s1, l_s2, g_w1, f_w1, l_w2, f_r0, l_r2])) ?_
            rintro ⟨i, cur⟩ ⟨g1, g2, g3, g4, g5⟩
            simp only at g1 g2 g3 g4 g5
            have wd : IntKind.i64.wrap (((0 : Nat) : Int) + 1) = ((0 + 1 : Nat) : Int) := by rw [wrap64_id (by omega) (by omega)]; rfl
            have wi : IntKind.i64.wrap ((i : Int) + 1) = ((i + 1 : Nat) : Int) := by rw [wrap64_id (by omega) (by omega)]; rfl
            by_cases c8 : i < n.vs.length
            · rw [if_neg (by omega)] at g2
              rw [List.drop_eq_getElem_cons c8] at g2
              have hvv := d2.vals n.vs[i] (List.getElem_mem c8)
              have hil : i < n.ks.length ∨ i = n.ks.length := by omega
              rcases hil with hik | hik
              · rw [List.drop_eq_getElem_cons hik] at g2
                simp only [foldK] at g2
                rcases Nat.eq_zero_or_pos i with h0 | h0
                · subst h0
                  have hz : (0 : Nat) < n.vs.length := c8
                  have hl0 : loAt lo n.ks 0 = lo := rfl
                  rw [hl0] at g2
                  simp [w11, hz, hik, ckO, treO, stoO, thO]
                  refine gcall_of0 (ih (0 + 1) n.vs[0] lo (some n.ks[0]) cur (nx + 2) nx (h'.up (by omega)) ⟨by omega, by omega, kt, ks, kw, by omega⟩ ⟨by have := hvv.1; omega, by have := hvv.2; omega⟩ (by omega) g3 g4 g5) (by simp) (by simp [ckO, treO, stoO, thO, sub1, e_tk, e_sk, e_wk, e_st, e_wt, e_ws, g_k1, g_t1, g_s1, g_w1]) (by simp [sub1, g_r0]) rfl ?_
                  by_cases c9 : (nodeM S f (0 + 1) n.vs[0] lo (some n.ks[0]) cur).2 = 0
                  · have hsn := seen_next g3 c9
                    have hdn := dep_next g3 c9
                    have c9' : ((nodeM S f (0 + 1) n.vs[0] lo (some n.ks[0]) cur).2 != 0) = false := by simpa using c9
                    simp [ckB, ckO, trB, stB, stR, treO, stoO, thO, c9', w11, e_tk, e_sk, e_wk, e_st, e_wt, e_ws, g_k1, g_t1, g_s1, g_w1, g_r0]
                    refine ⟨1, (nodeM S f (0 + 1) n.vs[0] lo (some n.ks[0]) cur).1, ⟨by omega, ?_, hsn, by omega, by omega⟩, by omega, leN_of [(nx, nx + 2)] (by simp [e_kt, e_tk, e_ks, e_sk, e_kw, e_wk, e_ts, e_st, e_tw, e_wt, e_sw, e_ws, g_k0, f_k1, l_k2, g_t0, f_t1, l_t2, g_s0, f_s1, l_s2, g_w0, f_w1, l_w2, g_r0, f_r0, l_r2, g_r2, f_r2])⟩
                    rw [if_neg (by omega), g2, if_pos c9]; simp [loAt, List.getD_eq_getElem?_getD, hik]
                  · have c9' : ((nodeM S f (0 + 1) n.vs[0] lo (some n.ks[0]) cur).2 != 0) = true := by simpa using c9
                    rw [if_neg c9] at g2
                    rw [g2]
                    simp [ckB, ckO, trB, stB, stR, treO, stoO, thO, c9', Try.results44, e_kt, e_tk, e_ks, e_sk, e_kw, e_wk, e_ts, e_st, e_tw, e_wt, e_sw, e_ws, l_k1, g_k1, l_t1, g_t1, l_s1, g_s1, l_w1, g_w1, g_r0, f_r0, l_r1]
                    exact ⟨[(nx, nx + 2)], by simp [e_kt, e_tk, e_ks, e_sk, e_kw, e_wk, e_ts, e_st, e_tw, e_wt, e_sw, e_ws, g_k0, g_t0, g_s0, g_w0, g_r0, g_r2, f_r2]⟩
                · have wm : IntKind.i64.wrap ((i : Int) - 1) = ((i - 1 : Nat) : Int) := by rw [wrap64_id (by omega) (by omega)]; omega
                  have hi1 : i - 1 < n.ks.length := by omega
                  have hlo : loAt lo n.ks i = n.ks[i - 1] := by
                    obtain ⟨j, rfl⟩ : ∃ j, i = j + 1 := ⟨i - 1, by omega⟩
                    simp only [loAt, List.getD_eq_getElem?_getD]; rw [List.getElem?_eq_getElem (by omega)]; rfl
                  have h0' : (0 : Int) < (i : Int) := by omega
                  rw [hlo] at g2
                  simp [w11, c8, hik, h0, wm, hi1, ckO, treO, stoO, thO]
                  refine gcall_of0 (ih (0 + 1) n.vs[i] n.ks[i - 1] (some n.ks[i]) cur (nx + 2) nx (h'.up (by omega)) ⟨by omega, by omega, kt, ks, kw, by omega⟩ ⟨by have := hvv.1; omega, by have := hvv.2; omega⟩ (by omega) g3 g4 g5) (by simp) (by simp [ckO, treO, stoO, thO, sub1, e_tk, e_sk, e_wk, e_st, e_wt, e_ws, g_k1, g_t1, g_s1, g_w1]) (by simp [sub1, g_r0]) rfl ?_
                  by_cases c9 : (nodeM S f (0 + 1) n.vs[i] n.ks[i - 1] (some n.ks[i]) cur).2 = 0
                  · have hsn := seen_next g3 c9
                    have hdn := dep_next g3 c9
                    have c9' : ((nodeM S f (0 + 1) n.vs[i] n.ks[i - 1] (some n.ks[i]) cur).2 != 0) = false := by simpa using c9
                    simp [ckB, ckO, trB, stB, stR, treO, stoO, thO, c9', wi, e_tk, e_sk, e_wk, e_st, e_wt, e_ws, g_k1, g_t1, g_s1, g_w1, g_r0]
                    refine ⟨i + 1, (nodeM S f (0 + 1) n.vs[i] n.ks[i - 1] (some n.ks[i]) cur).1, ⟨by omega, ?_, hsn, by omega, by omega⟩, by omega, leN_of [(nx, nx + 2)] (by simp [e_kt, e_tk, e_ks, e_sk, e_kw, e_wk, e_ts, e_st, e_tw, e_wt, e_sw, e_ws, g_k0, f_k1, l_k2, g_t0, f_t1, l_t2, g_s0, f_s1, l_s2, g_w0, f_w1, l_w2, g_r0, f_r0, l_r2, g_r2, f_r2])⟩
                    rw [if_neg (by omega), g2, if_pos c9]; simp [loAt, List.getD_eq_getElem?_getD, hik]
                  · have c9' : ((nodeM S f (0 + 1) n.vs[i] n.ks[i - 1] (some n.ks[i]) cur).2 != 0) = true := by simpa using c9
                    rw [if_neg c9] at g2
                    rw [g2]
                    simp [ckB, ckO, trB, stB, stR, treO, stoO, thO, c9', Try.results44, e_kt, e_tk, e_ks, e_sk, e_kw, e_wk, e_ts, e_st, e_tw, e_wt, e_sw, e_ws, l_k1, g_k1, l_t1, g_t1, l_s1, g_s1, l_w1, g_w1, g_r0, f_r0, l_r1]
                    exact ⟨[(nx, nx + 2)], by simp [e_kt, e_tk, e_ks, e_sk, e_kw, e_wk, e_ts, e_st, e_tw, e_wt, e_sw, e_ws, g_k0, g_t0, g_s0, g_w0, g_r0, g_r2, f_r2]⟩
              · have hdr : n.ks.drop i = [] := by rw [hik, List.drop_length]
                rw [hdr] at g2
                simp only [foldK] at g2
                have h0 : 0 < i := by have := d2.inner c4'; omega
                have wm : IntKind.i64.wrap ((i : Int) - 1) = ((i - 1 : Nat) : Int) := by rw [wrap64_id (by omega) (by omega)]; omega
                have hi1 : i - 1 < n.ks.length := by omega
                have hlo : loAt lo n.ks i = n.ks[i - 1] := by
                  obtain ⟨j, rfl⟩ : ∃ j, i = j + 1 := ⟨i - 1, by omega⟩
                  simp only [loAt, List.getD_eq_getElem?_getD]; rw [List.getElem?_eq_getElem (by omega)]; rfl
                have h0' : (0 : Int) < (i : Int) := by omega
                have hik' : ¬ (i : Int) < (n.ks.length : Int) := by omega
                have hikn : ¬ i < n.ks.length := by omega
                rw [hlo] at g2
                simp [w11, c8, hik', h0, wm, hi1, ckO, treO, stoO, thO]
                refine gcall_of0 (ih (0 + 1) n.vs[i] n.ks[i - 1] hi cur (nx + 2) nx (h'.up (by omega)) ⟨by omega, by omega, kt, ks, kw, by omega⟩ ⟨by have := hvv.1; omega, by have := hvv.2; omega⟩ (by omega) g3 g4 g5) (by simp) (by simp [ckO, treO, stoO, thO, sub1, e_tk, e_sk, e_wk, e_st, e_wt, e_ws, g_k1, g_t1, g_s1, g_w1]) (by simp [sub1, g_r0]) rfl ?_
                by_cases c9 : (nodeM S f (0 + 1) n.vs[i] n.ks[i - 1] hi cur).2 = 0
                · have hsn := seen_next g3 c9
                  have hdn := dep_next g3 c9
                  have c9' : ((nodeM S f (0 + 1) n.vs[i] n.ks[i - 1] hi cur).2 != 0) = false := by simpa using c9
                  simp [ckB, ckO, trB, stB, stR, treO, stoO, thO, c9', wi, e_tk, e_sk, e_wk, e_st, e_wt, e_ws, g_k1, g_t1, g_s1, g_w1, g_r0]
                  refine ⟨i + 1, (nodeM S f (0 + 1) n.vs[i] n.ks[i - 1] hi cur).1, ⟨by omega, ?_, hsn, by omega, by omega⟩, by omega, leN_of [(nx, nx + 2)] (by simp [e_kt, e_tk, e_ks, e_sk, e_kw, e_wk, e_ts, e_st, e_tw, e_wt, e_sw, e_ws, g_k0, f_k1, l_k2, g_t0, f_t1, l_t2, g_s0, f_s1, l_s2, g_w0, f_w1, l_w2, g_r0, f_r0, l_r2, g_r2, f_r2])⟩
                  rw [if_pos (by omega), g2, ← c9]
                · have c9' : ((nodeM S f (0 + 1) n.vs[i] n.ks[i - 1] hi cur).2 != 0) = true := by simpa using c9
                  rw [g2]
                  simp [ckB, ckO, trB, stB, stR, treO, stoO, thO, c9', Try.results44, e_kt, e_tk, e_ks, e_sk, e_kw, e_wk, e_ts, e_st, e_tw, e_wt, e_sw, e_ws, l_k1, g_k1, l_t1, g_t1, l_s1, g_s1, l_w1, g_w1, g_r0, f_r0, l_r1]
                  exact ⟨[(nx, nx + 2)], by simp [e_kt, e_tk, e_ks, e_sk, e_kw, e_wk, e_ts, e_st, e_tw, e_wt, e_sw, e_ws, g_k0, g_t0, g_s0, g_w0, g_r0, g_r2, f_r2]⟩
            · have ee : i = n.vs.length := by omega
              rw [if_pos ee] at g2
              rw [g2]
              simp [c8, ckO, treO, stoO, thO, Try.results44, e_kt, e_ks, e_kw, e_ts, e_tw, e_sw, l_k1, l_t1, l_s1, l_w1, f_r0, l_r1]
              exact ⟨[], by simp [e_kt, e_tk, e_ks, e_sk, e_kw, e_wk, e_ts, e_st, e_tw, e_wt, e_sw, e_ws, g_k1, g_t1, g_s1, g_w1, g_r0, f_r0]⟩
        · have c5' : ((d : Int) == 0) = false := by simp; omega
          have hfw : fewK d n = 1 := by simp [fewK, c5, c4]
          have hl1 := d2.inner c4'
          have c6' : ¬ ((n.ks.length : Int) < 1) := by omega
          have c6z : ¬ (n.ks = []) := fun h => by rw [h] at hl1; simp at hl1
          cases c7 : fitB n lo hi with
          | false =>
            rw [c7] at hfit
            have e : RR = (ckAdd c page, 10) := by rw [hRR, hM, if_neg (by rw [c7]; simp)]
            rw [e]
            simp [trB, stB, stR, treO, stoO, thO, c4', c5', c6', e_tk, e_sk, e_wk, e_st, e_wt, e_ws, f_k1, f_t1, f_s1, f_w1, g_r0]
            refine pcall_of hfit (by simp [c4']) ?_
            simp [ckAdd, Try.results44, e_kt, e_ks, e_kw, e_ts, e_tw, e_sw, l_k1, l_t1, l_s1, l_w1, f_r0, l_r1]
            exact ⟨[], by simp [e_kt, e_ks, e_kw, e_ts, e_st, e_tw, e_wt, e_sw, e_ws, g_k1, g_t1, g_s1, g_w1, f_r0]⟩
          | true =>
            rw [c7] at hfit
            have e : RR = foldK (nodeM S f (d + 1)) lo n.ks hi n.vs (ckAdd c page) := by rw [hRR, hM, if_pos ⟨by rw [hfw]; exact hl1, c7⟩, if_neg c4]
            simp [trB, stB, stR, treO, stoO, thO, c4', c5', c6', e_tk, e_sk, e_wk, e_st, e_wt, e_ws, f_k1, f_t1, f_s1, f_w1, g_r0]
            refine pcall_of hfit (by simp [c4']) ?_
            simp
            rw [c4'] at hvl
            simp only [Bool.false_eq_true, if_false] at hvl
            refine aw_loop (fun y : Nat × Ck => y.1 ≤ n.vs.length ∧ (if y.1 = n.vs.length then RR = (y.2, 0) else RR = foldK (nodeM S f (d + 1)) (loAt lo n.ks y.1) (n.ks.drop y.1) hi (n.vs.drop y.1) y.2) ∧ SeenOk S y.2 ∧ -1 ≤ y.2.dep ∧ y.2.dep ≤ 40)
              (fun y => [(0, .obj k 0), (2, .p (.int (d : Nat))), (3, .p (.str lo)), (4, .p (.str (hi.getD []))), (5, .p (.bool hi.isSome)), (13, .obj (nx + 1) 0), (95, .p (.sl (n.vs.map PC.int))), (96, .p (.int n.vs.length)), (97, .p (.int y.1))])
              (fun y => ⟨[(nx + 1, ⟨56, 3, [.p (.bool false), .p (.sl (n.ks.map PC.str)), .p (.sl (n.vs.map PC.int))]⟩), (k, ckO t nx y.2), (t, treO s root), (s, stoO r w S), (w, thO S)], [(nx, 3, 1), (r, 56, 3)], nx + 2⟩) (fun y => n.vs.length - y.1) (0, ckAdd c page) ⟨by simp, by rw [if_neg (by omega)]; simpa [loAt] using e, hseen, hc2, hc3⟩ _ (AS.le_refl _ _) (leN_id (by simp [ckO, ckAdd, treO, stoO, thO, e_kt, e_ks, e_kw, e_ts, e_st, e_tw, e_wt, e_sw, e_ws, g_k1, f_k1, l_k2, g_t1, f_t1, l_t2, g_s1, f_s1, l_s2, g_w1, f_w1, l_w2, f_r0, l_r2])) ?_
            rintro ⟨i, cur⟩ ⟨g1, g2, g3, g4, g5⟩
            simp only at g1 g2 g3 g4 g5
            have wd : IntKind.i64.wrap (((d : Nat) : Int) + 1) = ((d + 1 : Nat) : Int) := by rw [wrap64_id (by omega) (by omega)]; rfl
            have wi : IntKind.i64.wrap ((i : Int) + 1) = ((i + 1 : Nat) : Int) := by rw [wrap64_id (by omega) (by omega)]; rfl
            by_cases c8 : i < n.vs.length
            · rw [if_neg (by omega)] at g2
              rw [List.drop_eq_getElem_cons c8] at g2
              have hvv := d2.vals n.vs[i] (List.getElem_mem c8)
              have hil : i < n.ks.length ∨ i = n.ks.length := by omega
              rcases hil with hik | hik
              · rw [List.drop_eq_getElem_cons hik] at g2
                simp only [foldK] at g2
                rcases Nat.eq_zero_or_pos i with h0 | h0
                · subst h0
                  have hz : (0 : Nat) < n.vs.length := c8
                  have hl0 : loAt lo n.ks 0 = lo := rfl
                  rw [hl0] at g2
                  simp [hz, hik, wd, ckO, treO, stoO, thO]
                  refine gcall_of0 (ih (d + 1) n.vs[0] lo (some n.ks[0]) cur (nx + 2) nx (h'.up (by omega)) ⟨by omega, by omega, kt, ks, kw, by omega⟩ ⟨by have := hvv.1; omega, by have := hvv.2; omega⟩ (by omega) g3 g4 g5) (by simp) (by simp [ckO, treO, stoO, thO, sub1, e_tk, e_sk, e_wk, e_st, e_wt, e_ws, g_k1, g_t1, g_s1, g_w1]) (by simp [sub1, g_r0]) rfl ?_
                  by_cases c9 : (nodeM S f (d + 1) n.vs[0] lo (some n.ks[0]) cur).2 = 0
                  · have hsn := seen_next g3 c9
                    have hdn := dep_next g3 c9
                    have c9' : ((nodeM S f (d + 1) n.vs[0] lo (some n.ks[0]) cur).2 != 0) = false := by simpa using c9
                    simp [ckB, ckO, trB, stB, stR, treO, stoO, thO, c9', w11, e_tk, e_sk, e_wk, e_st, e_wt, e_ws, g_k1, g_t1, g_s1, g_w1, g_r0]
                    refine ⟨1, (nodeM S f (d + 1) n.vs[0] lo (some n.ks[0]) cur).1, ⟨by omega, ?_, hsn, by omega, by omega⟩, by omega, leN_of [(nx, nx + 2)] (by simp [e_kt, e_tk, e_ks, e_sk, e_kw, e_wk, e_ts, e_st, e_tw, e_wt, e_sw, e_ws, g_k0, f_k1, l_k2, g_t0, f_t1, l_t2, g_s0, f_s1, l_s2, g_w0, f_w1, l_w2, g_r0, f_r0, l_r2, g_r2, f_r2])⟩
                    rw [if_neg (by omega), g2, if_pos c9]; simp [loAt, List.getD_eq_getElem?_getD, hik]
                  · have c9' : ((nodeM S f (d + 1) n.vs[0] lo (some n.ks[0]) cur).2 != 0) = true := by simpa using c9
                    rw [if_neg c9] at g2
                    rw [g2]
                    simp [ckB, ckO, trB, stB, stR, treO, stoO, thO, c9', Try.results44, e_kt, e_tk, e_ks, e_sk, e_kw, e_wk, e_ts, e_st, e_tw, e_wt, e_sw, e_ws, l_k1, g_k1, l_t1, g_t1, l_s1, g_s1, l_w1, g_w1, g_r0, f_r0, l_r1]
                    exact ⟨[(nx, nx + 2)], by simp [e_kt, e_tk, e_ks, e_sk, e_kw, e_wk, e_ts, e_st, e_tw, e_wt, e_sw, e_ws, g_k0, g_t0, g_s0, g_w0, g_r0, g_r2, f_r2]⟩
                · have wm : IntKind.i64.wrap ((i : Int) - 1) = ((i - 1 : Nat) : Int) := by rw [wrap64_id (by omega) (by omega)]; omega
                  have hi1 : i - 1 < n.ks.length := by omega
                  have hlo : loAt lo n.ks i = n.ks[i - 1] := by
                    obtain ⟨j, rfl⟩ : ∃ j, i = j + 1 := ⟨i - 1, by omega⟩
                    simp only [loAt, List.getD_eq_getElem?_getD]; rw [List.getElem?_eq_getElem (by omega)]; rfl
                  have h0' : (0 : Int) < (i : Int) := by omega
                  rw [hlo] at g2
                  simp [c8, hik, h0, wm, hi1, wd, ckO, treO, stoO, thO]
                  refine gcall_of0 (ih (d + 1) n.vs[i] n.ks[i - 1] (some n.ks[i]) cur (nx + 2) nx (h'.up (by omega)) ⟨by omega, by omega, kt, ks, kw, by omega⟩ ⟨by have := hvv.1; omega, by have := hvv.2; omega⟩ (by omega) g3 g4 g5) (by simp) (by simp [ckO, treO, stoO, thO, sub1, e_tk, e_sk, e_wk, e_st, e_wt, e_ws, g_k1, g_t1, g_s1, g_w1]) (by simp [sub1, g_r0]) rfl ?_
                  by_cases c9 : (nodeM S f (d + 1) n.vs[i] n.ks[i - 1] (some n.ks[i]) cur).2 = 0
                  · have hsn := seen_next g3 c9
                    have hdn := dep_next g3 c9
                    have c9' : ((nodeM S f (d + 1) n.vs[i] n.ks[i - 1] (some n.ks[i]) cur).2 != 0) = false := by simpa using c9
                    simp [ckB, ckO, trB, stB, stR, treO, stoO, thO, c9', wi, e_tk, e_sk, e_wk, e_st, e_wt, e_ws, g_k1, g_t1, g_s1, g_w1, g_r0]
                    refine ⟨i + 1, (nodeM S f (d + 1) n.vs[i] n.ks[i - 1] (some n.ks[i]) cur).1, ⟨by omega, ?_, hsn, by omega, by omega⟩, by omega, leN_of [(nx, nx + 2)] (by simp [e_kt, e_tk, e_ks, e_sk, e_kw, e_wk, e_ts, e_st, e_tw, e_wt, e_sw, e_ws, g_k0, f_k1, l_k2, g_t0, f_t1, l_t2, g_s0, f_s1, l_s2, g_w0, f_w1, l_w2, g_r0, f_r0, l_r2, g_r2, f_r2])⟩
                    rw [if_neg (by omega), g2, if_pos c9]; simp [loAt, List.getD_eq_getElem?_getD, hik]
                  · have c9' : ((nodeM S f (d + 1) n.vs[i] n.ks[i - 1] (some n.ks[i]) cur).2 != 0) = true := by simpa using c9
                    rw [if_neg c9] at g2
                    rw [g2]
                    simp [ckB, ckO, trB, stB, stR, treO, stoO, thO, c9', Try.results44, e_kt, e_tk, e_ks, e_sk, e_kw, e_wk, e_ts, e_st, e_tw, e_wt, e_sw, e_ws, l_k1, g_k1, l_t1, g_t1, l_s1, g_s1, l_w1, g_w1, g_r0, f_r0, l_r1]
                    exact ⟨[(nx, nx + 2)], by simp [e_kt, e_tk, e_ks, e_sk, e_kw, e_wk, e_ts, e_st, e_tw, e_wt, e_sw, e_ws, g_k0, g_t0, g_s0, g_w0, g_r0, g_r2, f_r2]⟩
              · have hdr : n.ks.drop i = [] := by rw [hik, List.drop_length]
                rw [hdr] at g2
                simp only [foldK] at g2
                have h0 : 0 < i := by have := d2.inner c4'; omega
                have wm : IntKind.i64.wrap ((i : Int) - 1) = ((i - 1 : Nat) : Int) := by rw [wrap64_id (by omega) (by omega)]; omega
                have hi1 : i - 1 < n.ks.length := by omega
                have hlo : loAt lo n.ks i = n.ks[i - 1] := by
                  obtain ⟨j, rfl⟩ : ∃ j, i = j + 1 := ⟨i - 1, by omega⟩
                  simp only [loAt, List.getD_eq_getElem?_getD]; rw [List.getElem?_eq_getElem (by omega)]; rfl
                have h0' : (0 : Int) < (i : Int) := by omega
                have hik' : ¬ (i : Int) < (n.ks.length : Int) := by omega
                have hikn : ¬ i < n.ks.length := by omega
                rw [hlo] at g2
                simp [c8, hik', h0, wm, hi1, wd, ckO, treO, stoO, thO]
                refine gcall_of0 (ih (d + 1) n.vs[i] n.ks[i - 1] hi cur (nx + 2) nx (h'.up (by omega)) ⟨by omega, by omega, kt, ks, kw, by omega⟩ ⟨by have := hvv.1; omega, by have := hvv.2; omega⟩ (by omega) g3 g4 g5) (by simp) (by simp [ckO, treO, stoO, thO, sub1, e_tk, e_sk, e_wk, e_st, e_wt, e_ws, g_k1, g_t1, g_s1, g_w1]) (by simp [sub1, g_r0]) rfl ?_
                by_cases c9 : (nodeM S f (d + 1) n.vs[i] n.ks[i - 1] hi cur).2 = 0
                · have hsn := seen_next g3 c9
                  have hdn := dep_next g3 c9
                  have c9' : ((nodeM S f (d + 1) n.vs[i] n.ks[i - 1] hi cur).2 != 0) = false := by simpa using c9
                  simp [ckB, ckO, trB, stB, stR, treO, stoO, thO, c9', wi, e_tk, e_sk, e_wk, e_st, e_wt, e_ws, g_k1, g_t1, g_s1, g_w1, g_r0]
                  refine ⟨i + 1, (nodeM S f (d + 1) n.vs[i] n.ks[i - 1] hi cur).1, ⟨by omega, ?_, hsn, by omega, by omega⟩, by omega, leN_of [(nx, nx + 2)] (by simp [e_kt, e_tk, e_ks, e_sk, e_kw, e_wk, e_ts, e_st, e_tw, e_wt, e_sw, e_ws, g_k0, f_k1, l_k2, g_t0, f_t1, l_t2, g_s0, f_s1, l_s2, g_w0, f_w1, l_w2, g_r0, f_r0, l_r2, g_r2, f_r2])⟩
                  rw [if_pos (by omega), g2, ← c9]
                · have c9' : ((nodeM S f (d + 1) n.vs[i] n.ks[i - 1] hi cur).2 != 0) = true := by simpa using c9
                  rw [g2]
                  simp [ckB, ckO, trB, stB, stR, treO, stoO, thO, c9', Try.results44, e_kt, e_tk, e_ks, e_sk, e_kw, e_wk, e_ts, e_st, e_tw, e_wt, e_sw, e_ws, l_k1, g_k1, l_t1, g_t1, l_s1, g_s1, l_w1, g_w1, g_r0, f_r0, l_r1]
                  exact ⟨[(nx, nx + 2)], by simp [e_kt, e_tk, e_ks, e_sk, e_kw, e_wk, e_ts, e_st, e_tw, e_wt, e_sw, e_ws, g_k0, g_t0, g_s0, g_w0, g_r0, g_r2, f_r2]⟩
            · have ee : i = n.vs.length := by omega
              rw [if_pos ee] at g2
              rw [g2]
              simp [c8, ckO, treO, stoO, thO, Try.results44, e_kt, e_ks, e_kw, e_ts, e_tw, e_sw, l_k1, l_t1, l_s1, l_w1, f_r0, l_r1]
              exact ⟨[], by simp [e_kt, e_tk, e_ks, e_sk, e_kw, e_wk, e_ts, e_st, e_tw, e_wt, e_sw, e_ws, g_k1, g_t1, g_s1, g_w1, g_r0, f_r0]⟩
    · have hd2 : (tload S page).2 ≠ 0 := by omega
      have e : RR = (ckAdd c page, (tload S page).2) := by rw [hRR]; unfold nodeM; rw [if_neg hnot, if_neg hd2]
      rw [e]
      generalize tload S page = qq at *
      obtain ⟨n, er⟩ := qq
      simp only at d1 d2 hsm hd2 ⊢
      have d3' : (er != 0) = true := by simpa using hd2
      simp [ckAdd, trB, stB, stR, treO, stoO, thO, d3', Try.results44, e_kt, e_tk, e_ks, e_sk, e_kw, e_wk, e_ts, e_st, e_tw, e_wt, e_sw, e_ws, l_k1, f_k1, l_t1, f_t1, l_s1, f_s1, l_w1, f_w1, g_r0, f_r0, l_r1]
      exact ⟨[], by simp [e_kt, e_ks, e_kw, e_ts, e_st, e_tw, e_wt, e_sw, e_ws, g_k1, g_t1, g_s1, g_w1, f_r0]⟩
end Go.Av

/-! part W19 -/
namespace Go.Av
open Go.Proofs Go.Tre
set_option maxRecDepth 100000

set_option maxHeartbeats 1000000 in
theorem check18 (t s r w nx : Nat) (h : Ids4 t s r w nx) (S : Sto) (hS : SOk S) (root : Int) (hroot : i64b root) :
    GenC Try.prog 18 [.obj t 0] ⟨trB t s r w S root, stR r, nx⟩ (.p (.int (checkM S root))) ⟨trB t s r w S root, stR r, nx⟩ := by
  have h' := h
  obtain ⟨ht, ⟨hs, hr, hw, sr, sw, rw_⟩, ts, tr, tw⟩ := h
  have e_ts : ¬ t = s := by omega
  have e_st : ¬ s = t := by omega
  have e_tr : ¬ t = r := by omega
  have e_rt : ¬ r = t := by omega
  have e_tw : ¬ t = w := by omega
  have e_wt : ¬ w = t := by omega
  have e_sr : ¬ s = r := by omega
  have e_rs : ¬ r = s := by omega
  have e_sw : ¬ s = w := by omega
  have e_ws : ¬ w = s := by omega
  have e_rw : ¬ r = w := by omega
  have e_wr : ¬ w = r := by omega
  have l_t0 : t < nx := by omega
  have g_t0 : ¬ t = nx := by omega
  have f_t0 : ¬ nx = t := by omega
  have l_t1 : t < nx + 1 := by omega
  have g_t1 : ¬ t = nx + 1 := by omega
  have f_t1 : ¬ nx + 1 = t := by omega
  have l_t2 : t < nx + 2 := by omega
  have g_t2 : ¬ t = nx + 2 := by omega
  have f_t2 : ¬ nx + 2 = t := by omega
  have m_t2 : t < nx + 1 + 1 := by omega
  have n_t2 : ¬ t = nx + 1 + 1 := by omega
  have o_t2 : ¬ nx + 1 + 1 = t := by omega
  have l_t3 : t < nx + 3 := by omega
  have g_t3 : ¬ t = nx + 3 := by omega
  have f_t3 : ¬ nx + 3 = t := by omega
  have m_t3 : t < nx + 1 + 1 + 1 := by omega
  have n_t3 : ¬ t = nx + 1 + 1 + 1 := by omega
  have o_t3 : ¬ nx + 1 + 1 + 1 = t := by omega
  have l_t4 : t < nx + 4 := by omega
  have g_t4 : ¬ t = nx + 4 := by omega
  have f_t4 : ¬ nx + 4 = t := by omega
  have m_t4 : t < nx + 1 + 1 + 1 + 1 := by omega
  have n_t4 : ¬ t = nx + 1 + 1 + 1 + 1 := by omega
  have o_t4 : ¬ nx + 1 + 1 + 1 + 1 = t := by omega
  have l_t5 : t < nx + 5 := by omega
  have g_t5 : ¬ t = nx + 5 := by omega
  have f_t5 : ¬ nx + 5 = t := by omega
  have m_t5 : t < nx + 1 + 1 + 1 + 1 + 1 := by omega
  have n_t5 : ¬ t = nx + 1 + 1 + 1 + 1 + 1 := by omega
  have o_t5 : ¬ nx + 1 + 1 + 1 + 1 + 1 = t := by omega
  have l_t6 : t < nx + 6 := by omega
  have g_t6 : ¬ t = nx + 6 := by omega
  have f_t6 : ¬ nx + 6 = t := by omega
  have m_t6 : t < nx + 1 + 1 + 1 + 1 + 1 + 1 := by omega
  have n_t6 : ¬ t = nx + 1 + 1 + 1 + 1 + 1 + 1 := by omega
  have o_t6 : ¬ nx + 1 + 1 + 1 + 1 + 1 + 1 = t := by omega
  have l_s0 : s < nx := by omega
  have g_s0 : ¬ s = nx := by omega
  have f_s0 : ¬ nx = s := by omega
  have l_s1 : s < nx + 1 := by omega
  have g_s1 : ¬ s = nx + 1 := by omega
  have f_s1 : ¬ nx + 1 = s := by omega
  have l_s2 : s < nx + 2 := by omega
  have g_s2 : ¬ s = nx + 2 := by omega
  have f_s2 : ¬ nx + 2 = s := by omega
  have m_s2 : s < nx + 1 + 1 := by omega
  have n_s2 : ¬ s = nx + 1 + 1 := by omega
  have o_s2 : ¬ nx + 1 + 1 = s := by omega
  have l_s3 : s < nx + 3 := by omega
  have g_s3 : ¬ s = nx + 3 := by omega
  have f_s3 : ¬ nx + 3 = s := by omega
  have m_s3 : s < nx + 1 + 1 + 1 := by omega
  have n_s3 : ¬ s = nx + 1 + 1 + 1 := by omega
  have o_s3 : ¬ nx + 1 + 1 + 1 = s := by omega
  have l_s4 : s < nx + 4 := by omega
  have g_s4 : ¬ s = nx + 4 := by omega
  have f_s4 : ¬ nx + 4 = s := by omega
  have m_s4 : s < nx + 1 + 1 + 1 + 1 := by omega
  have n_s4 : ¬ s = nx + 1 + 1 + 1 + 1 := by omega
  have o_s4 : ¬ nx + 1 + 1 + 1 + 1 = s := by omega
  have l_s5 : s < nx + 5 := by omega
  have g_s5 : ¬ s = nx + 5 := by omega
  have f_s5 : ¬ nx + 5 = s := by omega
  have m_s5 : s < nx + 1 + 1 + 1 + 1 + 1 := by omega
  have n_s5 : ¬ s = nx + 1 + 1 + 1 + 1 + 1 := by omega
  have o_s5 : ¬ nx + 1 + 1 + 1 + 1 + 1 = s := by omega
  have l_s6 : s < nx + 6 := by omega
  have g_s6 : ¬ s = nx + 6 := by omega
  have f_s6 : ¬ nx + 6 = s := by omega
  have m_s6 : s < nx + 1 + 1 + 1 + 1 + 1 + 1 := by omega
  have n_s6 : ¬ s = nx + 1 + 1 + 1 + 1 + 1 + 1 := by omega
  have o_s6 : ¬ nx + 1 + 1 + 1 + 1 + 1 + 1 = s := by omega
  have l_r0 : r < nx := by omega
  have g_r0 : ¬ r = nx := by omega
  have f_r0 : ¬ nx = r := by omega
  have l_r1 : r < nx + 1 := by omega
  have g_r1 : ¬ r = nx + 1 := by omega
  have f_r1 : ¬ nx + 1 = r := by omega
  have l_r2 : r < nx + 2 := by omega
  have g_r2 : ¬ r = nx + 2 := by omega
  have f_r2 : ¬ nx + 2 = r := by omega
  have m_r2 : r < nx + 1 + 1 := by omega
  have n_r2 : ¬ r = nx + 1 + 1 := by omega
  have o_r2 : ¬ nx + 1 + 1 = r := by omega
  have l_r3 : r < nx + 3 := by omega
  have g_r3 : ¬ r = nx + 3 := by omega
  have f_r3 : ¬ nx + 3 = r := by omega
  have m_r3 : r < nx + 1 + 1 + 1 := by omega
  have n_r3 : ¬ r = nx + 1 + 1 + 1 := by omega
  have o_r3 : ¬ nx + 1 + 1 + 1 = r := by omega
  have l_r4 : r < nx + 4 := by omega
  have g_r4 : ¬ r = nx + 4 := by omega
  have f_r4 : ¬ nx + 4 = r := by omega
  have m_r4 : r < nx + 1 + 1 + 1 + 1 := by omega
  have n_r4 : ¬ r = nx + 1 + 1 + 1 + 1 := by omega
  have o_r4 : ¬ nx + 1 + 1 + 1 + 1 = r := by omega
  have l_r5 : r < nx + 5 := by omega
  have g_r5 : ¬ r = nx + 5 := by omega
  have f_r5 : ¬ nx + 5 = r := by omega
  have m_r5 : r < nx + 1 + 1 + 1 + 1 + 1 := by omega
  have n_r5 : ¬ r = nx + 1 + 1 + 1 + 1 + 1 := by omega
  have o_r5 : ¬ nx + 1 + 1 + 1 + 1 + 1 = r := by omega
  have l_r6 : r < nx + 6 := by omega
  have g_r6 : ¬ r = nx + 6 := by omega
  have f_r6 : ¬ nx + 6 = r := by omega
  have m_r6 : r < nx + 1 + 1 + 1 + 1 + 1 + 1 := by omega
  have n_r6 : ¬ r = nx + 1 + 1 + 1 + 1 + 1 + 1 := by omega
  have o_r6 : ¬ nx + 1 + 1 + 1 + 1 + 1 + 1 = r := by omega
  have l_w0 : w < nx := by omega
  have g_w0 : ¬ w = nx := by omega
  have f_w0 : ¬ nx = w := by omega
  have l_w1 : w < nx + 1 := by omega
  have g_w1 : ¬ w = nx + 1 := by omega
  have f_w1 : ¬ nx + 1 = w := by omega
  have l_w2 : w < nx + 2 := by omega
  have g_w2 : ¬ w = nx + 2 := by omega
  have f_w2 : ¬ nx + 2 = w := by omega
  have m_w2 : w < nx + 1 + 1 := by omega
  have n_w2 : ¬ w = nx + 1 + 1 := by omega
  have o_w2 : ¬ nx + 1 + 1 = w := by omega
  have l_w3 : w < nx + 3 := by omega
  have g_w3 : ¬ w = nx + 3 := by omega
  have f_w3 : ¬ nx + 3 = w := by omega
  have m_w3 : w < nx + 1 + 1 + 1 := by omega
  have n_w3 : ¬ w = nx + 1 + 1 + 1 := by omega
  have o_w3 : ¬ nx + 1 + 1 + 1 = w := by omega
  have l_w4 : w < nx + 4 := by omega
  have g_w4 : ¬ w = nx + 4 := by omega
  have f_w4 : ¬ nx + 4 = w := by omega
  have m_w4 : w < nx + 1 + 1 + 1 + 1 := by omega
  have n_w4 : ¬ w = nx + 1 + 1 + 1 + 1 := by omega
  have o_w4 : ¬ nx + 1 + 1 + 1 + 1 = w := by omega
  have l_w5 : w < nx + 5 := by omega
  have g_w5 : ¬ w = nx + 5 := by omega
  have f_w5 : ¬ nx + 5 = w := by omega
  have m_w5 : w < nx + 1 + 1 + 1 + 1 + 1 := by omega
  have n_w5 : ¬ w = nx + 1 + 1 + 1 + 1 + 1 := by omega
  have o_w5 : ¬ nx + 1 + 1 + 1 + 1 + 1 = w := by omega
  have l_w6 : w < nx + 6 := by omega
  have g_w6 : ¬ w = nx + 6 := by omega
  have f_w6 : ¬ nx + 6 = w := by omega
  have m_w6 : w < nx + 1 + 1 + 1 + 1 + 1 + 1 := by omega
  have n_w6 : ¬ w = nx + 1 + 1 + 1 + 1 + 1 + 1 := by omega
  have o_w6 : ¬ nx + 1 + 1 + 1 + 1 + 1 + 1 = w := by omega
  refine gen_of_aw (rs := [_]) [10] [] [] mixed Try.func18 rfl (by kernel_rfl) (by kernel_rfl) (by simp [Try.ntmps18]) rfl ?_
  unfold checkM
  by_cases c : root = 0
  · subst c
    simp [trB, stB, stR, treO, stoO, thO, Try.results18, e_ts, e_tw, e_sw, l_t0, l_s0, l_r0, l_w0]
    exact ⟨[], by simp [e_ts, e_st, e_tw, e_wt, e_sw, e_ws]⟩
  · rw [if_neg c]
    have c' : (root == 0) = false := by simpa using c
    simp [trB, stB, stR, treO, stoO, thO, c', g_t0]
    have hp := node44 nx t s r w S hS root 40 0 root [] none ⟨[], -1⟩ (nx + 2) (nx + 1) (h'.up (by omega)) ⟨by omega, by omega, by omega, by omega, by omega, by omega⟩ hroot (by omega) ⟨by simp, by simp⟩ (by simp) (by simp)
    have hp2 : GenC Try.prog 44 [.obj nx 0, .p (.int root), .p (.int ((0 : Nat) : Int)), .p (.str []), .p (.str (Option.getD none [])), .p (.bool (none : Option Key).isSome)] ⟨(nx, ⟨100, 3, [.obj t 0, .p .nil, .p (.int (-1))]⟩) :: trB t s r w S root, stR r, nx + 1⟩ _ _ :=
      gen_cell nx 1 3 1 ⟨100, 3, [.obj t 0, .p .nil, .p (.int (-1))]⟩ (by simp [lk]) (by simp) (by simpa [Tb.addRw, Tb.setOb, del, ckB, ckO, trB, stB, stoO, thO, treO, e_ts, e_st, e_tr, e_rt, e_tw, e_wt, e_sr, e_rs, e_sw, e_ws, e_rw, e_wr, l_t0, g_t0, f_t0, l_t1, g_t1, f_t1, l_t2, g_t2, f_t2, m_t2, n_t2, o_t2, l_t3, g_t3, f_t3, m_t3, n_t3, o_t3, l_t4, g_t4, f_t4, m_t4, n_t4, o_t4, l_t5, g_t5, f_t5, m_t5, n_t5, o_t5, l_t6, g_t6, f_t6, m_t6, n_t6, o_t6, l_s0, g_s0, f_s0, l_s1, g_s1, f_s1, l_s2, g_s2, f_s2, m_s2, n_s2, o_s2, l_s3, g_s3, f_s3, m_s3, n_s3, o_s3, l_s4, g_s4, f_s4, m_s4, n_s4, o_s4, l_s5, g_s5, f_s5, m_s5, n_s5, o_s5, l_s6, g_s6, f_s6, m_s6, n_s6, o_s6, l_r0, g_r0, f_r0, l_r1, g_r1, f_r1, l_r2, g_r2, f_r2, m_r2, n_r2, o_r2, l_r3, g_r3, f_r3, m_r3, n_r3, o_r3, l_r4, g_r4, f_r4, m_r4, n_r4, o_r4, l_r5, g_r5, f_r5, m_r5, n_r5, o_r5, l_r6, g_r6, f_r6, m_r6, n_r6, o_r6, l_w0, g_w0, f_w0, l_w1, g_w1, f_w1, l_w2, g_w2, f_w2, m_w2, n_w2, o_w2, l_w3, g_w3, f_w3, m_w3, n_w3, o_w3, l_w4, g_w4, f_w4, m_w4, n_w4, o_w4, l_w5, g_w5, f_w5, m_w5, n_w5, o_w5, l_w6, g_w6, f_w6, m_w6, n_w6, o_w6] using hp)
    refine gcall_of0 hp2 (by simp) (by simp [treO, stoO, thO, sub1, e_st, e_wt, e_ws, g_t0, g_s0, g_w0]) (by simp [sub1]) rfl ?_
    simp [trB, stB, stR, treO, stoO, thO, Try.results18, e_ts, e_st, e_tw, e_wt, e_sw, e_ws, l_t0, g_t0, l_s0, g_s0, l_r0, l_w0, g_w0]
    exact ⟨[], by simp [e_ts, e_st, e_tw, e_wt, e_sw, e_ws, g_t0, g_s0, g_r2, g_w0]⟩
end Go.Av

/-! part W20 -/
namespace Go.Av
open Go.Proofs Go.Tre
set_option maxRecDepth 100000

@[reducible] def chO (t q : Nat) (old : List Int) : Ob := ⟨80, 2, [.obj t 0, .own q (old.map PC.int)]⟩
@[reducible] def chB (k q t s r w : Nat) (S : Sto) (root : Int) (old : List Int) : List (Nat × Ob) := (k, chO t q old) :: trB t s r w S root
structure NdSm (n : Nd) : Prop where
  ks : n.ks.length ≤ 500
  vs : n.vs.length ≤ 500
  keys : ∀ k ∈ n.ks, k.length ≤ 1000000
structure SOkN (b : Nat) (S : Sto) : Prop where
  wf : S.Wf
  len : S.nd.length ≤ b
  nds : ∀ n ∈ S.nd, NdSm n
  sv : 0 ≤ S.sv ∧ S.sv ≤ b
theorem SOkN.ok {b : Nat} {S : Sto} (h : SOkN b S) (hb : b ≤ 1000000000) : SOk S := by
  have h1 := h.len
  have h2 := h.sv
  exact ⟨h.wf, by omega, fun n hn => by have := h.nds n hn; exact ⟨by have := this.ks; omega, by have := this.vs; omega, this.keys⟩, by omega⟩
theorem SOkN.up {b c : Nat} {S : Sto} (h : SOkN b S) (hb : b ≤ c) : SOkN c S := ⟨h.wf, by have := h.len; omega, h.nds, by have := h.sv; omega⟩
theorem SOkN.save {b : Nat} {S : Sto} (h : SOkN b S) {n : Nd} (hn : NdSm n) : SOkN (b + 1) (S.save n).1 := by
  have h1 := h.len
  have h2 := h.sv
  have hw : S.th.length = S.nd.length := h.wf
  unfold Sto.save
  split
  · exact ⟨h.wf, by simp only; omega, h.nds, by simp only; omega⟩
  · refine ⟨by simp [Sto.Wf, Sto.add, hw], by simp [Sto.add]; omega, fun m hm => ?_, by simp only [Sto.add]; omega⟩
    simp only [Sto.add, List.mem_append, List.mem_singleton] at hm
    rcases hm with hm | rfl
    · exact h.nds m hm
    · exact hn
theorem splA_sm {n : Nd} (h : NdSm n) : NdSm (splA n) := by
  unfold splA; split
  · exact ⟨by have := h.ks; simp [splA0]; omega, by have := h.vs; simp [splA0]; omega, fun k hk => h.keys k (List.mem_of_mem_take hk)⟩
  · exact h
theorem splB_sm {n : Nd} (h : NdSm n) : NdSm (splB n) := by
  unfold splB; split
  · exact ⟨by have := h.ks; simp [splB0]; omega, by have := h.vs; simp [splB0]; omega, fun k hk => h.keys k (List.mem_of_mem_drop hk)⟩
  · exact ⟨by simp, by simp, by simp⟩
theorem SOkN.putM {b : Nat} {S : Sto} (h : SOkN b S) {n : Nd} (hn : NdSm n) : SOkN (b + 2) (putM S n).1 := by
  unfold Go.Tre.putM
  split
  · exact (h.save hn).up (by omega)
  · split
    · exact (h.save (splA_sm hn)).save (splB_sm hn)
    · exact (h.save (splA_sm hn)).up (by omega)
theorem splitB (n : Nd) (hn : NdSm n) (h4 : 4 < n.ks.length) : PureC Try.prog 55 [ndP n] (.tp [ndP (splA n), .str (splK n), ndP (splB n)]) := by
  have h := split23 n.lf n.ks n.vs (by have := hn.ks; omega) (by have := hn.vs; omega)
  have e : splitR n.lf n.ks n.vs = .tp [ndP (splA n), .str (splK n), ndP (splB n)] := by
    unfold splitR splA splB splK fmN fmd
    by_cases c : (n.vs.length == n.ks.length + (if n.lf then 0 else 1)) = true
    · rw [c]
      have : decide (2 ≤ n.ks.length) = true := by simp; omega
      simp only [this, Bool.and_true, if_true]
      rfl
    · have c' : (n.vs.length == n.ks.length + (if n.lf then 0 else 1)) = false := Bool.eq_false_iff.2 c
      rw [c']
      simp
  rwa [e] at h

set_option maxHeartbeats 2000000 in
theorem put32 (k q t s r w nx b : Nat) (h : Ids4 t s r w nx) (hq : IdsC k q t s r w nx) (S : Sto) (hS : SOkN b S) (hb : b + 2 ≤ 1000000000) (root : Int) (old : List Int) (n : Nd) (hn : NdSm n) :
    GenC Try.prog 32 [.obj k 0, .p (ndP n)] ⟨chB k q t s r w S root old, (q, 3, 1) :: stR r, nx⟩ (.agg true [.p (.sl ((putM S n).2.1.map PC.int)), .p (.str (putM S n).2.2.1), .p (.int (putM S n).2.2.2)])
      ⟨chB k q t s nx (nx + 1) (putM S n).1 root old, (q, 3, 1) :: stR nx, nx + 2⟩ := by
  have h' := h
  have hq' := hq
  obtain ⟨ht, ⟨hs, hr, hw, sr, sw, rw_⟩, ts, tr, tw⟩ := h
  obtain ⟨hk, hqn, kt, ks, kw, qr⟩ := hq
  have e_kt : ¬ k = t := by omega
  have e_tk : ¬ t = k := by omega
  have e_ks : ¬ k = s := by omega
  have e_sk : ¬ s = k := by omega
  have e_wk : ¬ w = k := by omega
  have e_ts : ¬ t = s := by omega
  have e_st : ¬ s = t := by omega
  have e_wt : ¬ w = t := by omega
  have e_ws : ¬ w = s := by omega
  have g_k0 : ¬ k = nx := by omega
  have f_k0 : ¬ nx = k := by omega
  have g_k1 : ¬ k = nx + 1 := by omega
  have f_k1 : ¬ nx + 1 = k := by omega
  have l_k2 : k < nx + 2 := by omega
  have g_k3 : ¬ k = nx + 3 := by omega
  have f_k3 : ¬ nx + 3 = k := by omega
  have g_k5 : ¬ k = nx + 5 := by omega
  have g_t0 : ¬ t = nx := by omega
  have f_t0 : ¬ nx = t := by omega
  have g_t1 : ¬ t = nx + 1 := by omega
  have f_t1 : ¬ nx + 1 = t := by omega
  have l_t2 : t < nx + 2 := by omega
  have g_t3 : ¬ t = nx + 3 := by omega
  have f_t3 : ¬ nx + 3 = t := by omega
  have g_t5 : ¬ t = nx + 5 := by omega
  have g_s0 : ¬ s = nx := by omega
  have f_s0 : ¬ nx = s := by omega
  have g_s1 : ¬ s = nx + 1 := by omega
  have f_s1 : ¬ nx + 1 = s := by omega
  have l_s2 : s < nx + 2 := by omega
  have g_s3 : ¬ s = nx + 3 := by omega
  have f_s3 : ¬ nx + 3 = s := by omega
  have g_s5 : ¬ s = nx + 5 := by omega
  have f_s5 : ¬ nx + 5 = s := by omega
  have g_w0 : ¬ w = nx := by omega
  have f_w0 : ¬ nx = w := by omega
  have g_w1 : ¬ w = nx + 1 := by omega
  have f_w1 : ¬ nx + 1 = w := by omega
  have e_rq : ¬ r = q := by omega
  have g_q0 : ¬ q = nx := by omega
  have g_q1 : ¬ q = nx + 1 := by omega
  have l_q2 : q < nx + 2 := by omega
  have g_q2 : ¬ q = nx + 2 := by omega
  have f_q2 : ¬ nx + 2 = q := by omega
  have g_q4 : ¬ q = nx + 4 := by omega
  have hn1 := hn.ks
  have hn2 := hn.vs
  refine gen_of_aw (rs := [_, _, _]) [] [(2, [(3, .r 1), (6, .r 2), (8, .w [])]), (5, [(3, .r 1), (6, .r 2), (7, .r 3), (8, .w [])]), (8, [(3, .r 1), (6, .r 2), (7, .r 4), (8, .w [])])] [(1, k), (2, t), (3, nx), (4, nx + 1)] mixed Try.func32 rfl (by kernel_rfl) (by kernel_rfl) (by simp [Try.ntmps32]) rfl ?_
  unfold Go.Tre.putM
  by_cases c1 : n.ks.length ≤ 4
  · have c1' : (n.ks.length : Int) ≤ 4 := by omega
    rw [if_pos c1]
    simp [trB, stB, stR, treO, stoO, thO, chB, chO, methS, c1', e_tk]
    refine icall_of (save111 s r w nx (h'.i3.up (by omega)) S (hS.ok (by omega)) n (by omega)) (by simp) (by simp [stoO, thO, sub1, e_sk, e_wk, e_st, e_wt, e_ws]) (by simp [sub1, e_rq]) rfl ?_
    simp [stB, stR, stoO, thO, Try.results32, e_kt, e_ks, e_sk, e_wk, e_ts, e_st, e_wt, e_ws, g_k1, l_k2, g_t1, l_t2, g_s1, l_s2, e_rq, g_q0, l_q2]
    exact ⟨[], by simp [e_kt, e_tk, e_ks, e_ts, g_k1, g_t1, g_s1, f_s1, g_q0]⟩
  · have c1' : ¬ (n.ks.length : Int) ≤ 4 := by omega
    rw [if_neg c1]
    simp [trB, stB, stR, treO, stoO, thO, chB, chO, c1']
    refine pcall_of (splitB n hn (by omega)) (by simp) ?_
    have hA := splA_sm hn
    have hB := splB_sm hn
    simp [methS, e_tk, g_k0, f_k0, g_k1, f_k1, g_t0, f_t0, g_t1, f_t1, f_s0, f_s1, f_w0, f_w1]
    refine icall_of (save111 s r w (nx + 2) (h'.i3.up (by omega)) S (hS.ok (by omega)) (splA n) (by have := hA.ks; have := hA.vs; omega)) (by simp) (by simp [stoO, thO, sub1, e_sk, e_wk, e_st, e_wt, e_ws, g_s0, g_s1, g_w0, g_w1]) (by simp [sub1, e_rq]) rfl ?_
    have hS1 := hS.save hA
    by_cases c2 : (S.save (splA n)).2.2 = 0
    · rw [if_pos c2]
      have c2' : ((S.save (splA n)).2.2 != 0) = false := by simpa using c2
      generalize S.save (splA n) = sa at *
      obtain ⟨S1, p1, e1⟩ := sa
      simp only at c2 c2' hS1 ⊢
      simp [stB, stR, stoO, thO, methS, c2', e_tk, e_ks, e_sk, e_wk, e_ts, e_st, e_wt, e_ws, g_k0, g_k1, g_k3, g_t0, g_t1, g_t3, g_s0, g_s1, f_s1, g_w0, g_w1, e_rq]
      refine icall_of (save111 s (nx + 2) (nx + 3) (nx + 4) ⟨by omega, by omega, by omega, by omega, by omega, by omega⟩ S1 (hS1.ok (by omega)) (splB n) (by have := hB.ks; have := hB.vs; omega)) (by simp) (by simp [stoO, thO, sub1, f_s3]) (by simp [sub1]) rfl ?_
      simp [stB, stR, stoO, thO, Try.results32, e_kt, e_ks, e_sk, e_ts, e_st, g_k1, l_k2, f_k3, g_t1, l_t2, f_t3, g_s0, g_s1, l_s2, f_s3, g_q0, l_q2, f_q2]
      exact ⟨[(nx, nx + 4), (nx + 1, nx + 4 + 1)], by simp [e_kt, e_tk, e_ks, e_ts, g_k0, g_k1, g_k5, g_t0, g_t1, g_t5, g_s0, g_s1, g_s5, f_s5, g_q0, g_q1, g_q4]; intro a b h; omega⟩
    · rw [if_neg c2]
      have c2' : ((S.save (splA n)).2.2 != 0) = true := by simpa using c2
      generalize S.save (splA n) = sa at *
      obtain ⟨S1, p1, e1⟩ := sa
      simp only at c2 c2' hS1 ⊢
      simp [stB, stR, stoO, thO, c2', Try.results32, e_kt, e_ks, e_sk, e_wk, e_ts, e_st, e_wt, e_ws, g_k1, l_k2, g_t1, l_t2, g_s0, g_s1, l_s2, g_w0, g_w1, e_rq, g_q0, l_q2]
      exact ⟨[(nx, nx + 2), (nx + 1, nx + 2 + 1)], by simp [e_kt, e_tk, e_ks, e_ts, g_k0, g_k1, g_k3, g_t0, g_t1, g_t3, g_s0, g_s1, g_s3, f_s3, g_q0, g_q1, g_q2]; intro a b h; omega⟩
end Go.Av

/-! part W21 -/
namespace Go.Av
open Go.Proofs Go.Tre
set_option maxRecDepth 100000

theorem with59 (n : Nd) (c : Nat) (p : Int) (hn : NdSm n) (hc : c < n.vs.length) : PureC Try.prog 59 [ndP n, .int c, .int p] (ndP (withL n c p)) := by
  have h2 := hn.vs
  have hcl := clone71 2 (n.vs.map PC.int) (by simp) (by simp) (by simp; omega)
  refine pure_of_gen (xs := [_, _, _]) (r := .agg false [.p (.bool n.lf), .p (.sl (n.ks.map PC.str)), .view 0 0 n.vs.length 1 none]) (tb' := ⟨[(0, ⟨3, 1, ((n.vs.set c p).map PC.int).map .p⟩)], [], 1⟩) ?_ ?_
  · refine gen_of_aw (rs := [_]) [3] [] [] mixed Try.func59 rfl (by kernel_rfl) (by kernel_rfl) (by simp [Try.ntmps59]) rfl ?_
    simp
    refine gcall_of0 hcl (by simp) trivial trivial rfl ?_
    have ec : (n.vs.map PC.int).flatMap pcs = n.vs.map PC.int := by
      induction n.vs with
      | nil => rfl
      | cons x l ih => simp [ih]
    have sc : List.take c (n.vs.map (AV.p ∘ PC.int)) ++ AV.p (PC.int p) :: List.drop (c + 1) (n.vs.map (AV.p ∘ PC.int)) = (n.vs.map (AV.p ∘ PC.int)).set c (AV.p (PC.int p)) := by
      rw [List.set_eq_take_append_cons_drop, if_pos (by simpa using hc)]
    have ls : AV.lim.lims 1 ((n.vs.map (AV.p ∘ PC.int)).set c (AV.p (PC.int p))) = true := by
      rw [show (n.vs.map (AV.p ∘ PC.int)).set c (AV.p (PC.int p)) = (n.vs.set c p).map (AV.p ∘ PC.int) by simp]; exact lims_pc
    simp [ec, hc, sc, Try.results59]
    exact ⟨by omega, [(0, 2)], by simp [ls]⟩
  · obtain ⟨V, hV⟩ : ∃ V, V = n.vs.set c p := ⟨_, rfl⟩
    have hl : V.length = n.vs.length := by rw [hV, List.length_set]
    have e : withL n c p = ⟨n.lf, n.ks, V⟩ := by rw [hV]; rfl
    rw [e, ← hV, ← hl]
    simp [borF, all2, tkI]

theorem insB (n : Nd) (i : Nat) (key : Key) (us : List Int) (hn : NdSm n) (hu : us.length ≤ 1000) (hf : fmN n = true) (hi : i ≤ n.ks.length) : PureC Try.prog 33 [ndP n, .int i, .str key, .sl (us.map PC.int)] (ndP (insL n i key us)) := by
  have h := insert16 n.lf n.ks n.vs i key us (by have := hn.ks; omega) (by have := hn.vs; omega) (by omega)
  have ok : insOk n.lf n.ks n.vs i = true := by
    unfold insOk fmd
    have hf' := hf
    unfold fmN at hf'
    rw [hf']; simp; omega
  unfold insKs insVs at h
  rw [ok] at h
  simp only [if_true, Int.toNat_natCast] at h
  simpa [insL] using h
theorem remB (n : Nd) (i : Nat) (hn : NdSm n) (hf : fmN n = true) (hi : i < n.ks.length) : PureC Try.prog 31 [ndP n, .int i] (ndP (remL n i)) := by
  have h := remove17 n.lf n.ks n.vs i (by have := hn.ks; omega) (by have := hn.vs; omega)
  have ok : remOk n.lf n.ks n.vs i = true := by
    unfold remOk fmd
    have hf' := hf
    unfold fmN at hf'
    rw [hf']; simp; omega
  unfold remKs remVs at h
  rw [ok] at h
  simp only [if_true, Int.toNat_natCast] at h
  simpa [remL, bh] using h
theorem SOkN.drops {b : Nat} : ∀ (l : List Int) {S : Sto}, SOkN b S → SOkN b (dropAll S l)
  | [], S, h => h
  | p :: l, S, h => by
    refine SOkN.drops l (S := S.drop p) ?_
    have hw : S.th.length = S.nd.length := h.wf
    unfold Sto.drop
    split
    · exact ⟨by simp [Sto.Wf, hw], h.len, h.nds, h.sv⟩
    · exact h
set_option maxHeartbeats 1000000 in
theorem done60 (k q t s r w nx b : Nat) (h : Ids4 t s r w nx) (hq : IdsC k q t s r w nx) (S : Sto) (hS : SOkN b S) (hb : b ≤ 1000000000) (root root' : Int) (old : List Int) (ho : old.length ≤ 1000000000) (hp : ∀ p ∈ old, i64b p) :
    GenC Try.prog 60 [.obj k 0, .p (.int root')] ⟨chB k q t s r w S root old, (q, 3, 1) :: stR r, nx⟩ (.agg true []) ⟨chB k q t s r w (dropAll S old) root' old, (q, 3, 1) :: stR r, nx⟩ := by
  have h' := h
  have hq' := hq
  obtain ⟨ht, ⟨hs, hr, hw, sr, sw, rw_⟩, ts, tr, tw⟩ := h
  obtain ⟨hk, hqn, kt, ks, kw, qr⟩ := hq
  have e_kt : ¬ k = t := by omega
  have e_tk : ¬ t = k := by omega
  have e_ks : ¬ k = s := by omega
  have e_sk : ¬ s = k := by omega
  have e_kw : ¬ k = w := by omega
  have e_wk : ¬ w = k := by omega
  have e_ts : ¬ t = s := by omega
  have e_st : ¬ s = t := by omega
  have e_tw : ¬ t = w := by omega
  have e_wt : ¬ w = t := by omega
  have e_sw : ¬ s = w := by omega
  have e_ws : ¬ w = s := by omega
  have l_k0 : k < nx := by omega
  have l_t0 : t < nx := by omega
  have l_s0 : s < nx := by omega
  have l_w0 : w < nx := by omega
  have e_qr : ¬ q = r := by omega
  have e_rq : ¬ r = q := by omega
  have l_q0 : q < nx := by omega
  have l_r0 : r < nx := by omega
  refine gen_of_aw (rs := []) [] [] [] mixed Try.func60 rfl (by kernel_rfl) (by kernel_rfl) (by simp [Try.ntmps60]) rfl ?_
  simp [trB, stB, stR, treO, stoO, thO, chB, chO, e_kt, e_tk, e_ts, e_tw]
  refine aw_loop (fun j : Nat => j ≤ old.length)
    (fun j => [(0, .obj k 0), (16, .own q (old.map PC.int)), (17, .p (.int old.length)), (18, .p (.int j))])
    (fun j => ⟨[(k, chO t q old), (t, treO s root'), (s, stoO r w (dropAll S (old.take j))), (w, thO (dropAll S (old.take j)))], [(q, 3, 1), (r, 56, 3)], nx⟩) (fun j => old.length - j) 0 (by simp) _ (AS.le_refl _ _) (leN_id (by simp [chO, treO, stoO, thO, dropAll, e_kt, e_ks, e_sk, e_kw, e_wk, e_ts, e_st, e_tw, e_wt, e_sw, e_ws, l_k0, l_t0, l_s0, l_w0, e_qr, e_rq, l_q0, l_r0])) ?_
  intro j h1
  by_cases c1 : j < old.length
  · have wj : IntKind.i64.wrap ((j : Int) + 1) = ((j + 1 : Nat) : Int) := by rw [wrap64_id (by omega) (by omega)]; rfl
    have hnext : dropAll S (old.take (j + 1)) = (dropAll S (old.take j)).drop old[j] := by
      unfold dropAll; rw [List.take_succ_eq_append_getElem c1, List.foldl_append]; rfl
    simp [c1, chO, treO, stoO, thO, methD, e_tk]
    refine icall_of (drop109 s r w nx (h'.i3.up (by omega)) (dropAll S (old.take j)) ((hS.drops _).ok hb) old[j] (hp _ (List.getElem_mem c1))) (by simp) (by simp [stoO, thO, sub1, e_sk, e_wk, e_st, e_wt, e_ws]) (by simp [sub1, e_rq]) rfl ?_
    simp [stB, stR, stoO, thO, wj, e_sk, e_wk, e_st, e_wt, e_ws, e_rq]
    refine ⟨j + 1, by omega, by omega, leN_id (by rw [hnext]; simp [e_kt, e_tk, e_ks, e_kw, e_ts, e_tw, e_sw, e_ws, l_k0, l_t0, l_s0, l_w0, e_qr, l_q0, l_r0])⟩
  · have e : j = old.length := by omega
    subst e
    simp [chO, treO, stoO, thO, Try.results60, e_kt, e_ks, e_kw, e_ts, e_tw, e_sw, l_k0, l_t0, l_s0, l_w0, e_qr, l_q0, l_r0]
    exact ⟨[], by simp [e_kt, e_tk, e_ks, e_sk, e_kw, e_wk, e_ts, e_st, e_tw, e_wt, e_sw, e_ws, e_qr, e_rq]⟩
end Go.Av
