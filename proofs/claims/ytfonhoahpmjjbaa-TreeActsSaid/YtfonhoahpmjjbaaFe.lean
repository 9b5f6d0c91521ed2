/- What Put computes. -/
import Derived.Test.YtfonhoahpmjjbaaFd
set_option linter.all false
/-! part W22 -/
namespace Go.Av
open Go.Proofs Go.Tre
set_option maxRecDepth 100000

theorem save_i64 {b : Nat} {S : Sto} (h : SOkN b S) (hb : b ≤ 1000000000) (n : Nd) : i64b (S.save n).2.1 := by
  have := h.len
  unfold Sto.save
  split
  · exact ⟨by simp, by simp⟩
  · exact ⟨by simp only; omega, by simp only; omega⟩
theorem putM_pg {b : Nat} {S : Sto} (h : SOkN b S) (hb : b + 2 ≤ 1000000000) {n : Nd} (hn : NdSm n) : (putM S n).2.1.length ≤ 2 ∧ ((putM S n).2.2.2 = 0 → 1 ≤ (putM S n).2.1.length) ∧ (∀ p ∈ (putM S n).2.1, i64b p) ∧ (putM S n).2.2.1.length ≤ 1000000 := by
  unfold Go.Tre.putM
  have h1 := save_i64 h (by omega) n
  have h2 := save_i64 h (by omega) (splA n)
  have h3 := save_i64 (h.save (splA_sm hn)) (by omega) (splB n)
  split
  · exact ⟨by simp, by simp, by simpa using h1, by simp⟩
  · split
    · refine ⟨by simp, by simp, by simp [h2, h3], ?_⟩
      simp only [splK]
      split
      · unfold splK0
        rcases Nat.lt_or_ge (n.ks.length / 2) n.ks.length with h4 | h4
        · rw [List.getD_eq_getElem?_getD, List.getElem?_eq_getElem h4]; exact hn.keys _ (List.getElem_mem h4)
        · rw [List.getD_eq_getElem?_getD, List.getElem?_eq_none h4]; simp
      · simp
    · rename_i h4
      exact ⟨by simp, fun h => absurd h h4, by simp, by simp⟩
structure StOk (x : Step) : Prop where
  rt : Right x.n
  inn : x.n.lf = false
  c : x.c ≤ x.n.ks.length
  p : i64b x.p
structure UpOk (b : Nat) (u : Up) : Prop where
  s : SOkN b u.s
  old : u.old.length ≤ b
  oldb : ∀ p ∈ u.old, i64b p
  pg : u.pg.length ≤ 2 ∧ (u.e = 0 → 1 ≤ u.pg.length)
  pgb : ∀ p ∈ u.pg, i64b p
  key : u.key.length ≤ 1000000
theorem right_sm {n : Nd} (h : Right n) : NdSm n := by
  have h1 := h.len
  have h2 := h.form
  exact ⟨by omega, by rw [h2]; split <;> omega, fun k hk => by have := (h.keys k hk).2; omega⟩
theorem right_fm {n : Nd} (h : Right n) : fmN n = true := by unfold fmN; rw [h.form]; simp
theorem insL_sm {n : Nd} {i : Nat} {key : Key} {us : List Int} (h : NdSm n) (hk : key.length ≤ 1000000) (hk2 : n.ks.length ≤ 100) (hv2 : n.vs.length ≤ 100) (hu : us.length ≤ 100) : NdSm (insL n i key us) := by
  refine ⟨by simp [insL]; omega, by simp [insL]; split <;> omega, fun k hk' => ?_⟩
  simp only [insL, List.mem_append, List.mem_cons] at hk'
  rcases hk' with hk' | rfl | hk'
  · exact h.keys k (List.mem_of_mem_take hk')
  · exact hk
  · exact h.keys k (List.mem_of_mem_drop hk')
theorem upN_sm {x : Step} {u : Up} {b : Nat} (hx : StOk x) (hu : UpOk b u) : NdSm (upN x u.pg u.key) := by
  have h := right_sm hx.rt
  have h1 := hx.rt.len
  have h2 := hx.rt.form
  unfold upN
  split
  · exact insL_sm h hu.key (by omega) (by rw [h2]; split <;> omega) (by have := hu.pg; omega)
  · exact ⟨h.ks, by simp [withL]; exact h.vs, h.keys⟩
theorem upF_ok {x : Step} {u : Up} {b : Nat} (hx : StOk x) (hu : UpOk b u) (hb : b + 2 ≤ 1000000000) : UpOk (b + 2) (upF x u) := by
  unfold upF
  split
  · have hn := upN_sm hx hu
    obtain ⟨p1, p2, p3, p4⟩ := putM_pg hu.s hb hn
    refine ⟨hu.s.putM hn, by simp; have := hu.old; omega, fun p hp => ?_, ⟨p1, p2⟩, p3, p4⟩
    rcases List.mem_append.1 hp with hp | hp
    · exact hu.oldb p hp
    · rw [List.mem_singleton] at hp; subst hp; exact hx.p
  · exact ⟨hu.s.up (by omega), by have := hu.old; omega, hu.oldb, hu.pg, hu.pgb, hu.key⟩
theorem foldr_ok {b : Nat} {u : Up} (hu : UpOk b u) : ∀ (l : List Step), (∀ x ∈ l, StOk x) → b + 2 * l.length ≤ 1000000000 → UpOk (b + 2 * l.length) (l.foldr upF u)
  | [], _, _ => by simpa using hu
  | x :: l, h, hb => by
    have hb' : b + 2 * (l.length + 1) ≤ 1000000000 := by simpa using hb
    have := upF_ok (h x (by simp)) (foldr_ok hu l (fun y hy => h y (by simp [hy])) (by omega)) (by omega)
    simpa [Nat.mul_add, Nat.add_assoc] using this
/-- what went wrong stays so -/
theorem foldr_err {u : Up} (h : u.e ≠ 0) : ∀ (l : List Step), l.foldr upF u = u
  | [] => rfl
  | x :: l => by simp only [List.foldr_cons, foldr_err h l]; unfold upF; rw [if_neg h]

set_option maxHeartbeats 4000000 in
theorem up34 (k q t s r w nx b : Nat) (h : Ids4 t s r w nx) (hq : IdsC k q t s r w nx) (root : Int) (u0 : Up) (h0 : UpOk b u0) (he : u0.e = 0) (l : List Step) (hl : ∀ x ∈ l, StOk x) (hl40 : l.length ≤ 100) (hb : b + 1000 ≤ 100000000) :
    GenC Try.prog 34 [.obj k 0, .p (.sl (l.map stP)), .p (.sl (u0.pg.map PC.int)), .p (.str u0.key)] ⟨chB k q t s r w u0.s root u0.old, (q, 3, 1) :: stR r, nx⟩ (.p (.int (finU root 0 false (l.foldr upF u0)).e))
      ⟨chB k nx t s (nx + 1) (nx + 2) (finU root 0 false (l.foldr upF u0)).s (finU root 0 false (l.foldr upF u0)).root (l.foldr upF u0).old, (nx, 3, 1) :: stR (nx + 1), nx + 3⟩ := by
  have h' := h
  have hq' := hq
  obtain ⟨ht, ⟨hs, hr, hw, sr, sw, rw_⟩, ts, tr, tw⟩ := h
  obtain ⟨hk, hqn, kt, ks, kw, qr⟩ := hq
  have e_kt : ¬ k = t := by omega
  have e_tk : ¬ t = k := by omega
  have e_ks : ¬ k = s := by omega
  have e_sk : ¬ s = k := by omega
  have e_kw : ¬ k = w := by omega
  have e_wk : ¬ w = k := by omega
  have e_ts : ¬ t = s := by omega
  have e_st : ¬ s = t := by omega
  have e_tw : ¬ t = w := by omega
  have e_wt : ¬ w = t := by omega
  have e_sw : ¬ s = w := by omega
  have e_ws : ¬ w = s := by omega
  have g_k0 : ¬ k = nx := by omega
  have g_k1 : ¬ k = nx + 1 := by omega
  have g_k2 : ¬ k = nx + 2 := by omega
  have f_k2 : ¬ nx + 2 = k := by omega
  have l_k3 : k < nx + 3 := by omega
  have g_k3 : ¬ k = nx + 3 := by omega
  have f_k3 : ¬ nx + 3 = k := by omega
  have g_k4 : ¬ k = nx + 4 := by omega
  have f_k4 : ¬ nx + 4 = k := by omega
  have g_k5 : ¬ k = nx + 5 := by omega
  have f_k5 : ¬ nx + 5 = k := by omega
  have g_k7 : ¬ k = nx + 7 := by omega
  have f_k7 : ¬ nx + 7 = k := by omega
  have g_t0 : ¬ t = nx := by omega
  have g_t1 : ¬ t = nx + 1 := by omega
  have g_t2 : ¬ t = nx + 2 := by omega
  have f_t2 : ¬ nx + 2 = t := by omega
  have l_t3 : t < nx + 3 := by omega
  have g_t3 : ¬ t = nx + 3 := by omega
  have f_t3 : ¬ nx + 3 = t := by omega
  have g_t4 : ¬ t = nx + 4 := by omega
  have f_t4 : ¬ nx + 4 = t := by omega
  have g_t5 : ¬ t = nx + 5 := by omega
  have f_t5 : ¬ nx + 5 = t := by omega
  have g_t7 : ¬ t = nx + 7 := by omega
  have f_t7 : ¬ nx + 7 = t := by omega
  have g_s0 : ¬ s = nx := by omega
  have g_s1 : ¬ s = nx + 1 := by omega
  have g_s2 : ¬ s = nx + 2 := by omega
  have f_s2 : ¬ nx + 2 = s := by omega
  have l_s3 : s < nx + 3 := by omega
  have g_s3 : ¬ s = nx + 3 := by omega
  have f_s3 : ¬ nx + 3 = s := by omega
  have g_s4 : ¬ s = nx + 4 := by omega
  have f_s4 : ¬ nx + 4 = s := by omega
  have g_s5 : ¬ s = nx + 5 := by omega
  have f_s5 : ¬ nx + 5 = s := by omega
  have g_s7 : ¬ s = nx + 7 := by omega
  have f_s7 : ¬ nx + 7 = s := by omega
  have e_qr : ¬ q = r := by omega
  have e_rq : ¬ r = q := by omega
  refine gen_of_aw (rs := [_]) [] [(5, [(4, .r 1), (6, .r 2), (8, .f [1, 2]), (11, .s 1 [2])]), (9, [(0, .r 3), (2, .r 2), (7, .w [])])] [(1, k), (2, nx + 3), (3, nx + 5)] mixed Try.func34 rfl (by kernel_rfl) (by kernel_rfl) (by simp [Try.ntmps34]) rfl ?_
  have wl : IntKind.i64.wrap ((l.length : Int) - 1) = (l.length : Int) - 1 := wrap64_id (by omega) (by omega)
  simp [trB, stB, stR, treO, stoO, thO, chB, chO, wl]
  refine aw_loop (fun y : Nat × Up => y.1 ≤ l.length ∧ y.2 = (l.drop y.1).foldr upF u0 ∧ y.2.e = 0)
    (fun y => [(0, .obj k 0), (1, .p (.sl (l.map stP))), (2, .p (.sl (y.2.pg.map PC.int))), (3, .p (.str y.2.key)), (9, .p (.int ((y.1 : Int) - 1)))])
    (fun y => let u := y.2; ⟨[(k, chO t nx u.old), (t, treO s root), (s, stoO (nx + 1) (nx + 2) u.s), (nx + 2, thO u.s)], [(nx, 3, 1), (nx + 1, 56, 3)], nx + 3⟩) (fun y => y.1) (l.length, u0) ⟨by simp, by simp, he⟩ _ (AS.le_refl _ _) (leN_of [(nx, q), (nx + 1, r), (nx + 2, w)] (by simp [chO, treO, stoO, thO, e_kt, e_tk, e_ks, e_sk, e_kw, e_wk, e_ts, e_st, e_tw, e_wt, e_sw, e_ws, g_k0, g_k1, g_k2, l_k3, g_t0, g_t1, g_t2, l_t3, g_s0, g_s1, g_s2, l_s3, e_qr, e_rq])) ?_
  rintro ⟨m, u⟩ ⟨g1, g2, g3⟩
  simp only at g1 g2 g3
  have hu : UpOk (b + 2 * (l.length - m)) u := by
    rw [g2]
    have := foldr_ok h0 (l.drop m) (fun x hx => hl x (List.mem_of_mem_drop hx)) (by simp; omega)
    simpa using this
  cases m with
  | zero =>
    have e : l.foldr upF u0 = u := by rw [g2]; rfl
    rw [e]
    have hol := hu.old
    have hpl := hu.pg.1
    have hp0 : 0 < u.pg.length := hu.pg.2 g3
    have i4 : Ids4 t s (nx + 1) (nx + 2) (nx + 3) := ⟨by omega, ⟨by omega, by omega, by omega, by omega, by omega, by omega⟩, by omega, by omega, by omega⟩
    have iC : IdsC k nx t s (nx + 1) (nx + 2) (nx + 3) := ⟨by omega, by omega, by omega, by omega, by omega, by omega⟩
    unfold finU
    rw [if_pos g3]
    by_cases c2 : u.pg.length = 2
    · rw [if_pos c2]
      have c2' : ((u.pg.length : Int) == 2) = true := by simp; omega
      have hsm : NdSm ⟨false, [u.key], u.pg⟩ := ⟨by simp, by simp; omega, by simpa using hu.key⟩
      simp [c2', chO, treO, stoO, thO, methS, e_tk]
      refine icall_of (save111 s (nx + 1) (nx + 2) (nx + 3) i4.i3 u.s (hu.s.ok (by omega)) ⟨false, [u.key], u.pg⟩ ⟨by simp, by simp; omega⟩) (by simp) (by simp [stoO, thO, sub1, e_sk, e_st, f_k2, f_t2, f_s2]) (by simp [sub1]) rfl ?_
      have hS1 := hu.s.save hsm
      have hi64 := save_i64 hu.s (by omega) ⟨false, [u.key], u.pg⟩
      generalize u.s.save ⟨false, [u.key], u.pg⟩ = sa at *
      obtain ⟨S1, p1, e1⟩ := sa
      simp only at hS1 hi64 ⊢
      by_cases c3 : e1 = 0
      · subst c3
        simp [stB, stR, stoO, thO, e_sk, e_st, f_k2, f_t2, f_s2]
        refine gcall_of0 (done60 k nx t s (nx + 3) (nx + 4) (nx + 5) _ ⟨by omega, ⟨by omega, by omega, by omega, by omega, by omega, by omega⟩, by omega, by omega, by omega⟩ ⟨by omega, by omega, by omega, by omega, by omega, by omega⟩ S1 hS1 (by omega) root p1 u.old (by omega) hu.oldb) (by simp) (by simp [chO, treO, stoO, thO, sub1, e_tk, e_ks, e_ts, g_k4, g_t4, f_s4]) (by simp [sub1]) rfl ?_
        simp [chB, chO, trB, stB, stR, treO, stoO, thO, Try.results34, e_kt, e_tk, e_ks, e_sk, e_ts, e_st, g_k2, l_k3, f_k4, g_t2, l_t3, f_t4, g_s2, l_s3, f_s4]
        exact ⟨[(nx + 1, nx + 3), (nx + 2, nx + 4)], by simp [e_kt, e_tk, e_ks, e_sk, e_ts, e_st, g_k1, g_k2, g_k4, f_k4, g_t1, g_t2, g_t4, f_t4, g_s1, g_s2, g_s4, f_s4]; intro a b h; omega⟩
      · have c3' : (e1 != 0) = true := by simpa using c3
        rw [if_neg c3]
        simp [stB, stR, stoO, thO, c3', Try.results34, e_kt, e_ks, e_sk, e_ts, e_st, g_k2, f_k2, l_k3, g_t2, f_t2, l_t3, g_s2, f_s2, l_s3]
        exact ⟨[(nx + 1, nx + 3), (nx + 2, nx + 3 + 1)], by simp [e_kt, e_tk, e_ks, e_ts, g_k1, g_k2, g_k4, g_t1, g_t2, g_t4, g_s1, g_s2, g_s4, f_s4]; intro a b h; omega⟩
    · rw [if_neg c2]
      have c2' : ((u.pg.length : Int) == 2) = false := by simp; omega
      have hgd : u.pg.getD 0 0 = u.pg[0] := by rw [List.getD_eq_getElem?_getD, List.getElem?_eq_getElem hp0]; rfl
      rw [hgd]
      simp [c2', hp0, chO, treO, stoO, thO]
      refine gcall_of0 (done60 k nx t s (nx + 1) (nx + 2) (nx + 3) _ i4 iC u.s hu.s (by omega) root u.pg[0] u.old (by omega) hu.oldb) (by simp) (by simp [chO, treO, stoO, thO, sub1, e_tk, e_sk, e_st, f_k2, f_t2, f_s2]) (by simp [sub1]) rfl ?_
      simp [chB, chO, trB, stB, stR, treO, stoO, thO, Try.results34, e_kt, e_tk, e_ks, e_sk, e_ts, e_st, g_k2, f_k2, l_k3, g_t2, f_t2, l_t3, g_s2, f_s2, l_s3]
      exact ⟨[], by simp [e_kt, e_tk, e_ks, e_sk, e_ts, e_st, g_k2, f_k2, g_t2, f_t2, g_s2, f_s2]⟩
  | succ m =>
  have hm : m < l.length := by omega
  obtain ⟨x, hxe⟩ : ∃ x, x = l[m] := ⟨_, rfl⟩
  have hx : StOk x := by rw [hxe]; exact hl _ (List.getElem_mem hm)
  have hnx : (l.drop m).foldr upF u0 = upF x u := by rw [List.drop_eq_getElem_cons hm, List.foldr_cons, ← g2, hxe]
  have hall : l.foldr upF u0 = (l.take m).foldr upF (upF x u) := by
    conv => lhs; rw [← List.take_append_drop m l]
    rw [List.foldr_append, hnx]
  have hp0 : 0 < u.pg.length := hu.pg.2 g3
  have hpl := hu.pg.1
  have hol := hu.old
  have hx4 := hx.rt.len
  have hxm : l[m] = x := hxe.symm
  have wm2 : IntKind.i64.wrap ((m : Int) - 1) = (m : Int) - 1 := wrap64_id (by omega) (by omega)
  have hcv : x.c < x.n.vs.length := by have h1 := hx.rt.form; have h2 := hx.c; rw [hx.inn] at h1; simp at h1; omega
  by_cases c2 : u.pg.length = 2
  · have c2' : ((u.pg.length : Int) == 2) = true := by simp; omega
    have hup : upN x u.pg u.key = insL x.n x.c u.key u.pg := by unfold upN; rw [if_pos c2]
    have hsm := upN_sm hx hu
    rw [hup] at hsm
    simp [hm, hxm, c2', chO, treO, stoO, thO, e_kt, e_ks, g_k2, g_k3, f_k3, f_k5, f_t3, f_t5, f_s3, f_s5]
    refine ⟨by omega, by omega, ?_⟩
    refine pcall_of (insB x.n x.c u.key u.pg (right_sm hx.rt) (by omega) (right_fm hx.rt) hx.c) (by simp) ?_
    simp [f_k5, f_t5, f_s5]
    refine gcall_of0 (put32 k (nx + 4) t s (nx + 1) (nx + 2) (nx + 6) (b + 2 * (l.length - (m + 1))) ⟨by omega, ⟨by omega, by omega, by omega, by omega, by omega, by omega⟩, by omega, by omega, by omega⟩ ⟨by omega, by omega, by omega, by omega, by omega, by omega⟩ u.s hu.s (by omega) root (u.old ++ [x.p]) (insL x.n x.c u.key u.pg) hsm) (by simp) (by simp [chO, treO, stoO, thO, sub1, e_tk, e_sk, e_st, f_k2, g_k5, f_t2, g_t3, g_t5, f_s2, g_s3, g_s5]) (by simp [sub1]) rfl ?_
    have hF : upF x u = ⟨(putM u.s (insL x.n x.c u.key u.pg)).1, u.old ++ [x.p], (putM u.s (insL x.n x.c u.key u.pg)).2.1, (putM u.s (insL x.n x.c u.key u.pg)).2.2.1, (putM u.s (insL x.n x.c u.key u.pg)).2.2.2⟩ := by unfold upF; rw [if_pos g3, hup]
    rw [hF] at hnx hall
    generalize putM u.s (insL x.n x.c u.key u.pg) = pp at *
    obtain ⟨S', pg', key', e'⟩ := pp
    simp only at hnx hall ⊢
    by_cases c3 : e' = 0
    · subst c3
      simp [chB, chO, trB, stB, stR, treO, stoO, thO, e_tk, e_sk, e_st, f_k2, g_k3, g_k5, f_t2, g_t3, g_t5, f_s2, g_s3, g_s5]
      exact ⟨m, _, ⟨by omega, hnx.symm, rfl⟩, by omega, leN_of [(nx, nx + 4), (nx + 1, nx + 6), (nx + 2, nx + 6 + 1)] (by simp [wm2, e_kt, e_tk, e_ks, e_sk, e_ts, e_st, g_k0, g_k1, g_k2, l_k3, g_k7, f_k7, g_t0, g_t1, g_t2, l_t3, g_t7, f_t7, g_s0, g_s1, g_s2, l_s3, g_s7, f_s7]; try (intro a b h; omega))⟩
    · have c3' : (e' != 0) = true := by simpa using c3
      have hres : l.foldr upF u0 = ⟨S', u.old ++ [x.p], pg', key', e'⟩ := by rw [hall, foldr_err c3]
      rw [hres]
      have hfu : finU root 0 false ⟨S', u.old ++ [x.p], pg', key', e'⟩ = ⟨S', root, 0, false, e'⟩ := by unfold finU; rw [if_neg c3]
      rw [hfu]
      simp [chB, chO, trB, stB, stR, treO, stoO, thO, c3', Try.results34, e_kt, e_tk, e_ks, e_sk, e_ts, e_st, g_k2, f_k2, l_k3, g_k3, g_k5, g_t2, f_t2, l_t3, g_t3, g_t5, g_s2, f_s2, l_s3, g_s3, g_s5]
      exact ⟨[(nx, nx + 4), (nx + 1, nx + 6), (nx + 2, nx + 6 + 1)], by simp [e_kt, e_tk, e_ks, e_sk, e_ts, e_st, g_k0, g_k1, g_k2, g_k7, f_k7, g_t0, g_t1, g_t2, g_t7, f_t7, g_s0, g_s1, g_s2, g_s7, f_s7]; intro a b h; omega⟩
  · have c2' : ((u.pg.length : Int) == 2) = false := by simp; omega
    have hup : upN x u.pg u.key = withL x.n x.c u.pg[0] := by unfold upN; rw [if_neg c2, List.getD_eq_getElem?_getD, List.getElem?_eq_getElem hp0]; rfl
    have hsm := upN_sm hx hu
    rw [hup] at hsm
    simp [hm, hxm, c2', hp0, chO, treO, stoO, thO, e_kt, e_ks, g_k2, g_k3, f_k3, f_k5, f_t3, f_t5, f_s3, f_s5]
    refine ⟨by omega, by omega, ?_⟩
    refine call_of (with59 x.n x.c u.pg[0] (right_sm hx.rt) hcv) ?_
    simp [f_k5, f_t5, f_s5]
    refine gcall_of0 (put32 k (nx + 4) t s (nx + 1) (nx + 2) (nx + 6) (b + 2 * (l.length - (m + 1))) ⟨by omega, ⟨by omega, by omega, by omega, by omega, by omega, by omega⟩, by omega, by omega, by omega⟩ ⟨by omega, by omega, by omega, by omega, by omega, by omega⟩ u.s hu.s (by omega) root (u.old ++ [x.p]) (withL x.n x.c u.pg[0]) hsm) (by simp) (by simp [chO, treO, stoO, thO, sub1, e_tk, e_sk, e_st, f_k2, g_k5, f_t2, g_t3, g_t5, f_s2, g_s3, g_s5]) (by simp [sub1]) rfl ?_
    have hF : upF x u = ⟨(putM u.s (withL x.n x.c u.pg[0])).1, u.old ++ [x.p], (putM u.s (withL x.n x.c u.pg[0])).2.1, (putM u.s (withL x.n x.c u.pg[0])).2.2.1, (putM u.s (withL x.n x.c u.pg[0])).2.2.2⟩ := by unfold upF; rw [if_pos g3, hup]
    rw [hF] at hnx hall
    generalize putM u.s (withL x.n x.c u.pg[0]) = pp at *
    obtain ⟨S', pg', key', e'⟩ := pp
    simp only at hnx hall ⊢
    by_cases c3 : e' = 0
    · subst c3
      simp [chB, chO, trB, stB, stR, treO, stoO, thO, e_tk, e_sk, e_st, f_k2, g_k3, g_k5, f_t2, g_t3, g_t5, f_s2, g_s3, g_s5]
      exact ⟨m, _, ⟨by omega, hnx.symm, rfl⟩, by omega, leN_of [(nx, nx + 4), (nx + 1, nx + 6), (nx + 2, nx + 6 + 1)] (by simp [wm2, e_kt, e_tk, e_ks, e_sk, e_ts, e_st, g_k0, g_k1, g_k2, l_k3, g_k7, f_k7, g_t0, g_t1, g_t2, l_t3, g_t7, f_t7, g_s0, g_s1, g_s2, l_s3, g_s7, f_s7]; try (intro a b h; omega))⟩
    · have c3' : (e' != 0) = true := by simpa using c3
      have hres : l.foldr upF u0 = ⟨S', u.old ++ [x.p], pg', key', e'⟩ := by rw [hall, foldr_err c3]
      rw [hres]
      have hfu : finU root 0 false ⟨S', u.old ++ [x.p], pg', key', e'⟩ = ⟨S', root, 0, false, e'⟩ := by unfold finU; rw [if_neg c3]
      rw [hfu]
      simp [chB, chO, trB, stB, stR, treO, stoO, thO, c3', Try.results34, e_kt, e_tk, e_ks, e_sk, e_ts, e_st, g_k2, f_k2, l_k3, g_k3, g_k5, g_t2, f_t2, l_t3, g_t3, g_t5, g_s2, f_s2, l_s3, g_s3, g_s5]
      exact ⟨[(nx, nx + 4), (nx + 1, nx + 6), (nx + 2, nx + 6 + 1)], by simp [e_kt, e_tk, e_ks, e_sk, e_ts, e_st, g_k0, g_k1, g_k2, g_k7, f_k7, g_t0, g_t1, g_t2, g_t7, f_t7, g_s0, g_s1, g_s2, g_s7, f_s7]; intro a b h; omega⟩
end Go.Av

/-! part W23 -/
namespace Go.Av
open Go.Proofs Go.Tre
set_option maxRecDepth 100000

/-- all but the last on a way are no leaves -/
theorem way_inner (S : Sto) (key : Key) : ∀ (f : Nat) (page : Int) (out : List Step), (∀ x ∈ out, x.n.lf = false ∧ i64b x.p) → i64b page → ∀ l x, (wayM S key f page out).1 = l ++ [x] → (∀ y ∈ l, y.n.lf = false) ∧ ∀ y ∈ l ++ [x], i64b y.p
  | 0, page, out, h, _, l, x, e => by
    unfold wayM at e; split at e
    · simp only at e; rw [e] at h; exact ⟨fun y hy => (h y (by simp [hy])).1, fun y hy => (h y hy).2⟩
    · simp at e
  | f + 1, page, out, h, hp, l, x, e => by
    unfold wayM at e
    split at e
    · simp only at e; rw [e] at h; exact ⟨fun y hy => (h y (by simp [hy])).1, fun y hy => (h y hy).2⟩
    · split at e
      · rename_i h2
        have h3 := (tload_inv h2).2
        split at e
        · simp only at e
          have e1 := List.append_inj_left' e (by simp)
          have e2 := List.append_inj_right' e (by simp)
          subst e1
          injection e2 with e2
          refine ⟨fun y hy => (h y hy).1, fun y hy => ?_⟩
          rcases List.mem_append.1 hy with hy | hy
          · exact (h y hy).2
          · rw [List.mem_singleton] at hy; subst hy; rw [← e2]; exact hp
        · rename_i h4
          have h4' : (tload S page).1.lf = false := Bool.eq_false_iff.2 h4
          refine way_inner S key f _ _ (fun y hy => ?_) ?_ l x e
          · rcases List.mem_append.1 hy with hy | hy
            · exact h y hy
            · rw [List.mem_singleton] at hy; subst hy; exact ⟨h4', hp⟩
          · rcases Nat.lt_or_ge (childM (tload S page).1 key) (tload S page).1.vs.length with h5 | h5
            · have := h3.vals _ (List.getElem_mem h5)
              rw [List.getD_eq_getElem?_getD, List.getElem?_eq_getElem h5]
              exact ⟨by have := this.1; simp only [Option.getD_some]; omega, by have := this.2; simp only [Option.getD_some]; omega⟩
            · rw [List.getD_eq_getElem?_getD, List.getElem?_eq_none h5]; exact ⟨by simp, by simp⟩
      · simp at e
theorem way_st {S : Sto} {key : Key} {root : Int} (hr : i64b root) {l : List Step} {x : Step} (e : (wayM S key 40 root []).1 = l ++ [x]) : (∀ y ∈ l, StOk y) ∧ Right x.n ∧ i64b x.p ∧ l.length ≤ 40 := by
  obtain ⟨h1, h2⟩ := way_inner S key 40 root [] (by simp) hr l x e
  have h3 := way_right S key root
  have h4 := way_len S key root
  rw [e] at h3 h4
  refine ⟨fun y hy => ⟨(h3 y (by simp [hy])).1, h1 y hy, by rw [(h3 y (by simp [hy])).2]; exact childM_le _ _, h2 y (by simp [hy])⟩, (h3 x (by simp)).1, h2 x (by simp), by simp at h4; omega⟩
theorem finU_s (root was : Int) (had : Bool) (u : Up) : (finU root was had u).s = (finU root 0 false u).s ∧ (finU root was had u).root = (finU root 0 false u).root ∧ (finU root was had u).e = (finU root 0 false u).e ∧
    (finU root was had u).was = (if (finU root 0 false u).e = 0 then was else 0) ∧ (finU root was had u).had = (if (finU root 0 false u).e = 0 then had else false) := by
  unfold finU
  by_cases c1 : u.e = 0
  · simp only [if_pos c1]
    by_cases c2 : u.pg.length = 2
    · simp only [if_pos c2]
      by_cases c3 : (u.s.save ⟨false, [u.key], u.pg⟩).2.2 = 0
      · simp [c3]
      · simp [c3]
    · simp [c2]
  · simp [c1]
theorem rem_fm {n : Nd} {i : Nat} (h : Right n) (hi : i < n.ks.length) : fmN (remL n i) = true ∧ NdSm (remL n i) ∧ (remL n i).ks.length + 1 = n.ks.length := by
  have h1 := h.form
  have h2 := right_sm h
  have hb : bh n = if n.lf then 0 else 1 := rfl
  refine ⟨?_, ⟨by have := h2.ks; simp [remL]; omega, by have := h2.vs; simp [remL]; omega, fun k hk => h2.keys k (mem_del hk)⟩, by simp [remL]; omega⟩
  unfold fmN
  simp only [remL, List.length_append, List.length_take, List.length_drop, h1, hb, beq_iff_eq]
  split <;> omega
theorem leaf_ok {b : Nat} {S : Sto} (hS : SOkN b S) (hb : b + 2 ≤ 1000000000) {n : Nd} (old : List Int) {key : Key} {v : Int} (hn : NdSm (putLf n key v)) (ho : old.length ≤ 1) (hp : ∀ p ∈ old, i64b p) : UpOk (b + 2) (leafUp S n old key v) := by
  have h := putM_pg hS hb hn
  exact ⟨hS.putM hn, by simp only [leafUp]; omega, hp, ⟨h.1, h.2.1⟩, h.2.2.1, h.2.2.2⟩

set_option maxHeartbeats 4000000 in
theorem put11 (t s r w nx b : Nat) (h : Ids4 t s r w nx) (S : Sto) (hS : SOkN b S) (hb : b + 1100 ≤ 100000000) (root : Int) (hroot : i64b root) (key : Key) (v : Int) (hkl : key.length ≤ 1000000) :
    GenC Try.prog 11 [.obj t 0, .p (.str key), .p (.int v)] ⟨trB t s r w S root, stR r, nx⟩ (.agg true [.p (.int (putT S root key v).was), .p (.bool (putT S root key v).had), .p (.int (putT S root key v).e)])
      ⟨trB t s nx (nx + 1) (putT S root key v).s (putT S root key v).root, stR nx, nx + 2⟩ := by
  have h' := h
  obtain ⟨ht, ⟨hs, hr, hw, sr, sw, rw_⟩, ts, tr, tw⟩ := h
  have e_ts : ¬ t = s := by omega
  have e_st : ¬ s = t := by omega
  have e_tr : ¬ t = r := by omega
  have e_rt : ¬ r = t := by omega
  have e_tw : ¬ t = w := by omega
  have e_wt : ¬ w = t := by omega
  have e_sr : ¬ s = r := by omega
  have e_rs : ¬ r = s := by omega
  have e_sw : ¬ s = w := by omega
  have e_ws : ¬ w = s := by omega
  have e_rw : ¬ r = w := by omega
  have e_wr : ¬ w = r := by omega
  have l_t0 : t < nx := by omega
  have g_t0 : ¬ t = nx := by omega
  have f_t0 : ¬ nx = t := by omega
  have l_t1 : t < nx + 1 := by omega
  have g_t1 : ¬ t = nx + 1 := by omega
  have f_t1 : ¬ nx + 1 = t := by omega
  have l_t2 : t < nx + 2 := by omega
  have g_t2 : ¬ t = nx + 2 := by omega
  have f_t2 : ¬ nx + 2 = t := by omega
  have m_t2 : t < nx + 1 + 1 := by omega
  have n_t2 : ¬ t = nx + 1 + 1 := by omega
  have o_t2 : ¬ nx + 1 + 1 = t := by omega
  have l_t3 : t < nx + 3 := by omega
  have g_t3 : ¬ t = nx + 3 := by omega
  have f_t3 : ¬ nx + 3 = t := by omega
  have m_t3 : t < nx + 1 + 1 + 1 := by omega
  have n_t3 : ¬ t = nx + 1 + 1 + 1 := by omega
  have o_t3 : ¬ nx + 1 + 1 + 1 = t := by omega
  have l_t4 : t < nx + 4 := by omega
  have g_t4 : ¬ t = nx + 4 := by omega
  have f_t4 : ¬ nx + 4 = t := by omega
  have m_t4 : t < nx + 1 + 1 + 1 + 1 := by omega
  have n_t4 : ¬ t = nx + 1 + 1 + 1 + 1 := by omega
  have o_t4 : ¬ nx + 1 + 1 + 1 + 1 = t := by omega
  have l_t5 : t < nx + 5 := by omega
  have g_t5 : ¬ t = nx + 5 := by omega
  have f_t5 : ¬ nx + 5 = t := by omega
  have m_t5 : t < nx + 1 + 1 + 1 + 1 + 1 := by omega
  have n_t5 : ¬ t = nx + 1 + 1 + 1 + 1 + 1 := by omega
  have o_t5 : ¬ nx + 1 + 1 + 1 + 1 + 1 = t := by omega
  have l_t6 : t < nx + 6 := by omega
  have g_t6 : ¬ t = nx + 6 := by omega
  have f_t6 : ¬ nx + 6 = t := by omega
  have m_t6 : t < nx + 1 + 1 + 1 + 1 + 1 + 1 := by omega
  have n_t6 : ¬ t = nx + 1 + 1 + 1 + 1 + 1 + 1 := by omega
  have o_t6 : ¬ nx + 1 + 1 + 1 + 1 + 1 + 1 = t := by omega
  have l_t7 : t < nx + 7 := by omega
  have g_t7 : ¬ t = nx + 7 := by omega
  have f_t7 : ¬ nx + 7 = t := by omega
  have m_t7 : t < nx + 1 + 1 + 1 + 1 + 1 + 1 + 1 := by omega
  have n_t7 : ¬ t = nx + 1 + 1 + 1 + 1 + 1 + 1 + 1 := by omega
  have o_t7 : ¬ nx + 1 + 1 + 1 + 1 + 1 + 1 + 1 = t := by omega
  have l_t8 : t < nx + 8 := by omega
  have g_t8 : ¬ t = nx + 8 := by omega
  have f_t8 : ¬ nx + 8 = t := by omega
  have m_t8 : t < nx + 1 + 1 + 1 + 1 + 1 + 1 + 1 + 1 := by omega
  have n_t8 : ¬ t = nx + 1 + 1 + 1 + 1 + 1 + 1 + 1 + 1 := by omega
  have o_t8 : ¬ nx + 1 + 1 + 1 + 1 + 1 + 1 + 1 + 1 = t := by omega
  have l_t9 : t < nx + 9 := by omega
  have g_t9 : ¬ t = nx + 9 := by omega
  have f_t9 : ¬ nx + 9 = t := by omega
  have m_t9 : t < nx + 1 + 1 + 1 + 1 + 1 + 1 + 1 + 1 + 1 := by omega
  have n_t9 : ¬ t = nx + 1 + 1 + 1 + 1 + 1 + 1 + 1 + 1 + 1 := by omega
  have o_t9 : ¬ nx + 1 + 1 + 1 + 1 + 1 + 1 + 1 + 1 + 1 = t := by omega
  have l_s0 : s < nx := by omega
  have g_s0 : ¬ s = nx := by omega
  have f_s0 : ¬ nx = s := by omega
  have l_s1 : s < nx + 1 := by omega
  have g_s1 : ¬ s = nx + 1 := by omega
  have f_s1 : ¬ nx + 1 = s := by omega
  have l_s2 : s < nx + 2 := by omega
  have g_s2 : ¬ s = nx + 2 := by omega
  have f_s2 : ¬ nx + 2 = s := by omega
  have m_s2 : s < nx + 1 + 1 := by omega
  have n_s2 : ¬ s = nx + 1 + 1 := by omega
  have o_s2 : ¬ nx + 1 + 1 = s := by omega
  have l_s3 : s < nx + 3 := by omega
  have g_s3 : ¬ s = nx + 3 := by omega
  have f_s3 : ¬ nx + 3 = s := by omega
  have m_s3 : s < nx + 1 + 1 + 1 := by omega
  have n_s3 : ¬ s = nx + 1 + 1 + 1 := by omega
  have o_s3 : ¬ nx + 1 + 1 + 1 = s := by omega
  have l_s4 : s < nx + 4 := by omega
  have g_s4 : ¬ s = nx + 4 := by omega
  have f_s4 : ¬ nx + 4 = s := by omega
  have m_s4 : s < nx + 1 + 1 + 1 + 1 := by omega
  have n_s4 : ¬ s = nx + 1 + 1 + 1 + 1 := by omega
  have o_s4 : ¬ nx + 1 + 1 + 1 + 1 = s := by omega
  have l_s5 : s < nx + 5 := by omega
  have g_s5 : ¬ s = nx + 5 := by omega
  have f_s5 : ¬ nx + 5 = s := by omega
  have m_s5 : s < nx + 1 + 1 + 1 + 1 + 1 := by omega
  have n_s5 : ¬ s = nx + 1 + 1 + 1 + 1 + 1 := by omega
  have o_s5 : ¬ nx + 1 + 1 + 1 + 1 + 1 = s := by omega
  have l_s6 : s < nx + 6 := by omega
  have g_s6 : ¬ s = nx + 6 := by omega
  have f_s6 : ¬ nx + 6 = s := by omega
  have m_s6 : s < nx + 1 + 1 + 1 + 1 + 1 + 1 := by omega
  have n_s6 : ¬ s = nx + 1 + 1 + 1 + 1 + 1 + 1 := by omega
  have o_s6 : ¬ nx + 1 + 1 + 1 + 1 + 1 + 1 = s := by omega
  have l_s7 : s < nx + 7 := by omega
  have g_s7 : ¬ s = nx + 7 := by omega
  have f_s7 : ¬ nx + 7 = s := by omega
  have m_s7 : s < nx + 1 + 1 + 1 + 1 + 1 + 1 + 1 := by omega
  have n_s7 : ¬ s = nx + 1 + 1 + 1 + 1 + 1 + 1 + 1 := by omega
  have o_s7 : ¬ nx + 1 + 1 + 1 + 1 + 1 + 1 + 1 = s := by omega
  have l_s8 : s < nx + 8 := by omega
  have g_s8 : ¬ s = nx + 8 := by omega
  have f_s8 : ¬ nx + 8 = s := by omega
  have m_s8 : s < nx + 1 + 1 + 1 + 1 + 1 + 1 + 1 + 1 := by omega
  have n_s8 : ¬ s = nx + 1 + 1 + 1 + 1 + 1 + 1 + 1 + 1 := by omega
  have o_s8 : ¬ nx + 1 + 1 + 1 + 1 + 1 + 1 + 1 + 1 = s := by omega
  have l_s9 : s < nx + 9 := by omega
  have g_s9 : ¬ s = nx + 9 := by omega
  have f_s9 : ¬ nx + 9 = s := by omega
  have m_s9 : s < nx + 1 + 1 + 1 + 1 + 1 + 1 + 1 + 1 + 1 := by omega
  have n_s9 : ¬ s = nx + 1 + 1 + 1 + 1 + 1 + 1 + 1 + 1 + 1 := by omega
  have o_s9 : ¬ nx + 1 + 1 + 1 + 1 + 1 + 1 + 1 + 1 + 1 = s := by omega
  have l_r0 : r < nx := by omega
  have g_r0 : ¬ r = nx := by omega
  have f_r0 : ¬ nx = r := by omega
  have l_r1 : r < nx + 1 := by omega
  have g_r1 : ¬ r = nx + 1 := by omega
  have f_r1 : ¬ nx + 1 = r := by omega
  have l_r2 : r < nx + 2 := by omega
  have g_r2 : ¬ r = nx + 2 := by omega
  have f_r2 : ¬ nx + 2 = r := by omega
  have m_r2 : r < nx + 1 + 1 := by omega
  have n_r2 : ¬ r = nx + 1 + 1 := by omega
  have o_r2 : ¬ nx + 1 + 1 = r := by omega
  have l_r3 : r < nx + 3 := by omega
  have g_r3 : ¬ r = nx + 3 := by omega
  have f_r3 : ¬ nx + 3 = r := by omega
  have m_r3 : r < nx + 1 + 1 + 1 := by omega
  have n_r3 : ¬ r = nx + 1 + 1 + 1 := by omega
  have o_r3 : ¬ nx + 1 + 1 + 1 = r := by omega
  have l_r4 : r < nx + 4 := by omega
  have g_r4 : ¬ r = nx + 4 := by omega
  have f_r4 : ¬ nx + 4 = r := by omega
  have m_r4 : r < nx + 1 + 1 + 1 + 1 := by omega
  have n_r4 : ¬ r = nx + 1 + 1 + 1 + 1 := by omega
  have o_r4 : ¬ nx + 1 + 1 + 1 + 1 = r := by omega
  have l_r5 : r < nx + 5 := by omega
  have g_r5 : ¬ r = nx + 5 := by omega
  have f_r5 : ¬ nx + 5 = r := by omega
  have m_r5 : r < nx + 1 + 1 + 1 + 1 + 1 := by omega
  have n_r5 : ¬ r = nx + 1 + 1 + 1 + 1 + 1 := by omega
  have o_r5 : ¬ nx + 1 + 1 + 1 + 1 + 1 = r := by omega
  have l_r6 : r < nx + 6 := by omega
  have g_r6 : ¬ r = nx + 6 := by omega
  have f_r6 : ¬ nx + 6 = r := by omega
  have m_r6 : r < nx + 1 + 1 + 1 + 1 + 1 + 1 := by omega
  have n_r6 : ¬ r = nx + 1 + 1 + 1 + 1 + 1 + 1 := by omega
  have o_r6 : ¬ nx + 1 + 1 + 1 + 1 + 1 + 1 = r := by omega
  have l_r7 : r < nx + 7 := by omega
  have g_r7 : ¬ r = nx + 7 := by omega
  have f_r7 : ¬ nx + 7 = r := by omega
  have m_r7 : r < nx + 1 + 1 + 1 + 1 + 1 + 1 + 1 := by omega
  have n_r7 : ¬ r = nx + 1 + 1 + 1 + 1 + 1 + 1 + 1 := by omega
  have o_r7 : ¬ nx + 1 + 1 + 1 + 1 + 1 + 1 + 1 = r := by omega
  have l_r8 : r < nx + 8 := by omega
  have g_r8 : ¬ r = nx + 8 := by omega
  have f_r8 : ¬ nx + 8 = r := by omega
  have m_r8 : r < nx + 1 + 1 + 1 + 1 + 1 + 1 + 1 + 1 := by omega
  have n_r8 : ¬ r = nx + 1 + 1 + 1 + 1 + 1 + 1 + 1 + 1 := by omega
  have o_r8 : ¬ nx + 1 + 1 + 1 + 1 + 1 + 1 + 1 + 1 = r := by omega
  have l_r9 : r < nx + 9 := by omega
  have g_r9 : ¬ r = nx + 9 := by omega
  have f_r9 : ¬ nx + 9 = r := by omega
  have m_r9 : r < nx + 1 + 1 + 1 + 1 + 1 + 1 + 1 + 1 + 1 := by omega
  have n_r9 : ¬ r = nx + 1 + 1 + 1 + 1 + 1 + 1 + 1 + 1 + 1 := by omega
  have o_r9 : ¬ nx + 1 + 1 + 1 + 1 + 1 + 1 + 1 + 1 + 1 = r := by omega
  have l_w0 : w < nx := by omega
  have g_w0 : ¬ w = nx := by omega
  have f_w0 : ¬ nx = w := by omega
  have l_w1 : w < nx + 1 := by omega
  have g_w1 : ¬ w = nx + 1 := by omega
  have f_w1 : ¬ nx + 1 = w := by omega
  have l_w2 : w < nx + 2 := by omega
  have g_w2 : ¬ w = nx + 2 := by omega
  have f_w2 : ¬ nx + 2 = w := by omega
  have m_w2 : w < nx + 1 + 1 := by omega
  have n_w2 : ¬ w = nx + 1 + 1 := by omega
  have o_w2 : ¬ nx + 1 + 1 = w := by omega
  have l_w3 : w < nx + 3 := by omega
  have g_w3 : ¬ w = nx + 3 := by omega
  have f_w3 : ¬ nx + 3 = w := by omega
  have m_w3 : w < nx + 1 + 1 + 1 := by omega
  have n_w3 : ¬ w = nx + 1 + 1 + 1 := by omega
  have o_w3 : ¬ nx + 1 + 1 + 1 = w := by omega
  have l_w4 : w < nx + 4 := by omega
  have g_w4 : ¬ w = nx + 4 := by omega
  have f_w4 : ¬ nx + 4 = w := by omega
  have m_w4 : w < nx + 1 + 1 + 1 + 1 := by omega
  have n_w4 : ¬ w = nx + 1 + 1 + 1 + 1 := by omega
  have o_w4 : ¬ nx + 1 + 1 + 1 + 1 = w := by omega
  have l_w5 : w < nx + 5 := by omega
  have g_w5 : ¬ w = nx + 5 := by omega
  have f_w5 : ¬ nx + 5 = w := by omega
  have m_w5 : w < nx + 1 + 1 + 1 + 1 + 1 := by omega
  have n_w5 : ¬ w = nx + 1 + 1 + 1 + 1 + 1 := by omega
  have o_w5 : ¬ nx + 1 + 1 + 1 + 1 + 1 = w := by omega
  have l_w6 : w < nx + 6 := by omega
  have g_w6 : ¬ w = nx + 6 := by omega
  have f_w6 : ¬ nx + 6 = w := by omega
  have m_w6 : w < nx + 1 + 1 + 1 + 1 + 1 + 1 := by omega
  have n_w6 : ¬ w = nx + 1 + 1 + 1 + 1 + 1 + 1 := by omega
  have o_w6 : ¬ nx + 1 + 1 + 1 + 1 + 1 + 1 = w := by omega
  have l_w7 : w < nx + 7 := by omega
  have g_w7 : ¬ w = nx + 7 := by omega
  have f_w7 : ¬ nx + 7 = w := by omega
  have m_w7 : w < nx + 1 + 1 + 1 + 1 + 1 + 1 + 1 := by omega
  have n_w7 : ¬ w = nx + 1 + 1 + 1 + 1 + 1 + 1 + 1 := by omega
  have o_w7 : ¬ nx + 1 + 1 + 1 + 1 + 1 + 1 + 1 = w := by omega
  have l_w8 : w < nx + 8 := by omega
  have g_w8 : ¬ w = nx + 8 := by omega
  have f_w8 : ¬ nx + 8 = w := by omega
  have m_w8 : w < nx + 1 + 1 + 1 + 1 + 1 + 1 + 1 + 1 := by omega
  have n_w8 : ¬ w = nx + 1 + 1 + 1 + 1 + 1 + 1 + 1 + 1 := by omega
  have o_w8 : ¬ nx + 1 + 1 + 1 + 1 + 1 + 1 + 1 + 1 = w := by omega
  have l_w9 : w < nx + 9 := by omega
  have g_w9 : ¬ w = nx + 9 := by omega
  have f_w9 : ¬ nx + 9 = w := by omega
  have m_w9 : w < nx + 1 + 1 + 1 + 1 + 1 + 1 + 1 + 1 + 1 := by omega
  have n_w9 : ¬ w = nx + 1 + 1 + 1 + 1 + 1 + 1 + 1 + 1 + 1 := by omega
  have o_w9 : ¬ nx + 1 + 1 + 1 + 1 + 1 + 1 + 1 + 1 + 1 = w := by omega
  have z2_t : ¬ t = nx + 2 + 1 := by omega
  have y2_t : ¬ nx + 2 + 1 = t := by omega
  have x2_t : t < nx + 2 + 1 := by omega
  have z2_s : ¬ s = nx + 2 + 1 := by omega
  have y2_s : ¬ nx + 2 + 1 = s := by omega
  have x2_s : s < nx + 2 + 1 := by omega
  have z2_r : ¬ r = nx + 2 + 1 := by omega
  have y2_r : ¬ nx + 2 + 1 = r := by omega
  have x2_r : r < nx + 2 + 1 := by omega
  have z2_w : ¬ w = nx + 2 + 1 := by omega
  have y2_w : ¬ nx + 2 + 1 = w := by omega
  have x2_w : w < nx + 2 + 1 := by omega
  have z3_t : ¬ t = nx + 3 + 1 := by omega
  have y3_t : ¬ nx + 3 + 1 = t := by omega
  have x3_t : t < nx + 3 + 1 := by omega
  have z3_s : ¬ s = nx + 3 + 1 := by omega
  have y3_s : ¬ nx + 3 + 1 = s := by omega
  have x3_s : s < nx + 3 + 1 := by omega
  have z3_r : ¬ r = nx + 3 + 1 := by omega
  have y3_r : ¬ nx + 3 + 1 = r := by omega
  have x3_r : r < nx + 3 + 1 := by omega
  have z3_w : ¬ w = nx + 3 + 1 := by omega
  have y3_w : ¬ nx + 3 + 1 = w := by omega
  have x3_w : w < nx + 3 + 1 := by omega
  have z4_t : ¬ t = nx + 4 + 1 := by omega
  have y4_t : ¬ nx + 4 + 1 = t := by omega
  have x4_t : t < nx + 4 + 1 := by omega
  have z4_s : ¬ s = nx + 4 + 1 := by omega
  have y4_s : ¬ nx + 4 + 1 = s := by omega
  have x4_s : s < nx + 4 + 1 := by omega
  have z4_r : ¬ r = nx + 4 + 1 := by omega
  have y4_r : ¬ nx + 4 + 1 = r := by omega
  have x4_r : r < nx + 4 + 1 := by omega
  have z4_w : ¬ w = nx + 4 + 1 := by omega
  have y4_w : ¬ nx + 4 + 1 = w := by omega
  have x4_w : w < nx + 4 + 1 := by omega
  have z5_t : ¬ t = nx + 5 + 1 := by omega
  have y5_t : ¬ nx + 5 + 1 = t := by omega
  have x5_t : t < nx + 5 + 1 := by omega
  have z5_s : ¬ s = nx + 5 + 1 := by omega
  have y5_s : ¬ nx + 5 + 1 = s := by omega
  have x5_s : s < nx + 5 + 1 := by omega
  have z5_r : ¬ r = nx + 5 + 1 := by omega
  have y5_r : ¬ nx + 5 + 1 = r := by omega
  have x5_r : r < nx + 5 + 1 := by omega
  have z5_w : ¬ w = nx + 5 + 1 := by omega
  have y5_w : ¬ nx + 5 + 1 = w := by omega
  have x5_w : w < nx + 5 + 1 := by omega
  have z6_t : ¬ t = nx + 6 + 1 := by omega
  have y6_t : ¬ nx + 6 + 1 = t := by omega
  have x6_t : t < nx + 6 + 1 := by omega
  have z6_s : ¬ s = nx + 6 + 1 := by omega
  have y6_s : ¬ nx + 6 + 1 = s := by omega
  have x6_s : s < nx + 6 + 1 := by omega
  have z6_r : ¬ r = nx + 6 + 1 := by omega
  have y6_r : ¬ nx + 6 + 1 = r := by omega
  have x6_r : r < nx + 6 + 1 := by omega
  have z6_w : ¬ w = nx + 6 + 1 := by omega
  have y6_w : ¬ nx + 6 + 1 = w := by omega
  have x6_w : w < nx + 6 + 1 := by omega
  refine gen_of_aw (rs := [_, _, _]) [34] [(11, [(4, .r 1), (11, .f [1]), (14, .s 1 [])])] [(1, nx)] mixed Try.func11 rfl (by kernel_rfl) (by kernel_rfl) (by simp [Try.ntmps11]) rfl ?_
  have hr28 := right28 key v
  obtain ⟨R, hR⟩ : ∃ R, R = putT S root key v := ⟨_, rfl⟩
  rw [← hR]
  by_cases c1 : keyB key v = false
  · have e : R = ⟨S, root, 0, false, 2⟩ := by rw [hR]; unfold putT; rw [if_neg (by rw [c1]; simp)]
    rw [c1] at hr28
    rw [e]
    simp
    refine pcall_of hr28 (by simp) ?_
    simp [trB, stB, stR, treO, stoO, thO, Try.results11, e_ts, g_t1, l_t2, g_s1, l_s2]
    exact ⟨[(nx, r), (nx + 1, w)], by simp [e_ts, e_st, e_tw, e_wt, e_sw, e_ws, g_t0, g_t1, g_s0, g_s1]; intro a b h; omega⟩
  have c1' : keyB key v = true := by simpa using c1
  rw [c1'] at hr28
  simp
  refine pcall_of hr28 (by simp) ?_
  simp
  refine gcall_of0 (way29 t s r w nx h' S (hS.ok (by omega)) root hroot key) (by simp) (by simp [trB, stB, treO, stoO, thO, sub1, e_st, e_wt, e_ws]) (by simp [stR, sub1]) rfl ?_
  have hst := fun l x => way_st (S := S) (key := key) hroot (l := l) (x := x)
  have hR2 : R = if (wayM S key 40 root []).2 = 0 then finU root (lastX (wayM S key 40 root []).1 key).1 (lastX (wayM S key 40 root []).1 key).2 (putU S (wayM S key 40 root []).1 key v)
    else ⟨S, root, 0, false, (wayM S key 40 root []).2⟩ := by rw [hR]; unfold putT; rw [if_pos c1']
  generalize wayM S key 40 root [] = q at *
  obtain ⟨l, e⟩ := q
  simp only at hst hR2 ⊢
  by_cases c2 : e = 0
  · subst c2
    rw [if_pos rfl] at hR2
    rcases List.eq_nil_or_concat l with rfl | ⟨l, x, rfl⟩
    · have wn : IntKind.i64.wrap (-1) = -1 := by decide
      have hfm : findM lfN key = 0 := rfl
      have hhm : hadM lfN key = false := rfl
      have hlf : putLf lfN key v = insL lfN 0 key [v] := rfl
      have hsl : NdSm lfN := ⟨by simp [lfN], by simp [lfN], by simp [lfN]⟩
      have hsm : NdSm (insL lfN 0 key [v]) := insL_sm hsl hkl (by simp [lfN]) (by simp [lfN]) (by simp)
      have hok := leaf_ok (n := lfN) hS (by omega) [] (key := key) (v := v) (by rw [hlf]; exact hsm) (by simp) (by simp)
      have hfb := findB lfN key (by simp [lfN])
      rw [hfm, hhm] at hfb
      simp only [putU, List.getLast?_nil, lastX, leafUp, hlf] at hR2 hok
      simp [trB, stB, stR, treO, stoO, thO, wn, e_st, e_wt, e_ws, f_t1, f_s1, f_w1]
      refine pcall_of hfb (by simp [lfN]) ?_
      simp
      refine pcall_of (insB lfN 0 key [v] hsl (by simp) rfl (by simp)) (by simp [lfN]) ?_
      simp
      have hp := put32 nx (nx + 2) t s r w (nx + 3) b ⟨by omega, ⟨by omega, by omega, by omega, by omega, by omega, by omega⟩, by omega, by omega, by omega⟩ ⟨by omega, by omega, by omega, by omega, by omega, by omega⟩ S hS (by omega) root [] (insL lfN 0 key [v]) hsm
      have hp2 : GenC Try.prog 32 [.obj nx 0, .p (ndP (insL lfN 0 key [v]))] ⟨(nx, ⟨80, 2, [.obj t 0, .p .nil]⟩) :: trB t s r w S root, stR r, nx + 2⟩ _ _ :=
        gen_cell nx 1 3 1 ⟨80, 2, [.obj t 0, .p .nil]⟩ (by simp [lk]) (by simp) (by simpa [Tb.addRw, Tb.setOb, del, chB, chO, trB, stB, stoO, thO, treO, e_ts, e_st, e_tr, e_rt, e_tw, e_wt, e_sr, e_rs, e_sw, e_ws, e_rw, e_wr, l_t0, g_t0, f_t0, l_t1, g_t1, f_t1, l_t2, g_t2, f_t2, m_t2, n_t2, o_t2, l_t3, g_t3, f_t3, m_t3, n_t3, o_t3, l_t4, g_t4, f_t4, m_t4, n_t4, o_t4, l_t5, g_t5, f_t5, m_t5, n_t5, o_t5, l_t6, g_t6, f_t6, m_t6, n_t6, o_t6, l_t7, g_t7, f_t7, m_t7, n_t7, o_t7, l_t8, g_t8, f_t8, m_t8, n_t8, o_t8, l_t9, g_t9, f_t9, m_t9, n_t9, o_t9, l_s0, g_s0, f_s0, l_s1, g_s1, f_s1, l_s2, g_s2, f_s2, m_s2, n_s2, o_s2, l_s3, g_s3, f_s3, m_s3, n_s3, o_s3, l_s4, g_s4, f_s4, m_s4, n_s4, o_s4, l_s5, g_s5, f_s5, m_s5, n_s5, o_s5, l_s6, g_s6, f_s6, m_s6, n_s6, o_s6, l_s7, g_s7, f_s7, m_s7, n_s7, o_s7, l_s8, g_s8, f_s8, m_s8, n_s8, o_s8, l_s9, g_s9, f_s9, m_s9, n_s9, o_s9, l_r0, g_r0, f_r0, l_r1, g_r1, f_r1, l_r2, g_r2, f_r2, m_r2, n_r2, o_r2, l_r3, g_r3, f_r3, m_r3, n_r3, o_r3, l_r4, g_r4, f_r4, m_r4, n_r4, o_r4, l_r5, g_r5, f_r5, m_r5, n_r5, o_r5, l_r6, g_r6, f_r6, m_r6, n_r6, o_r6, l_r7, g_r7, f_r7, m_r7, n_r7, o_r7, l_r8, g_r8, f_r8, m_r8, n_r8, o_r8, l_r9, g_r9, f_r9, m_r9, n_r9, o_r9, l_w0, g_w0, f_w0, l_w1, g_w1, f_w1, l_w2, g_w2, f_w2, m_w2, n_w2, o_w2, l_w3, g_w3, f_w3, m_w3, n_w3, o_w3, l_w4, g_w4, f_w4, m_w4, n_w4, o_w4, l_w5, g_w5, f_w5, m_w5, n_w5, o_w5, l_w6, g_w6, f_w6, m_w6, n_w6, o_w6, l_w7, g_w7, f_w7, m_w7, n_w7, o_w7, l_w8, g_w8, f_w8, m_w8, n_w8, o_w8, l_w9, g_w9, f_w9, m_w9, n_w9, o_w9, z2_t, y2_t, x2_t, z2_s, y2_s, x2_s, z2_r, y2_r, x2_r, z2_w, y2_w, x2_w, z3_t, y3_t, x3_t, z3_s, y3_s, x3_s, z3_r, y3_r, x3_r, z3_w, y3_w, x3_w, z4_t, y4_t, x4_t, z4_s, y4_s, x4_s, z4_r, y4_r, x4_r, z4_w, y4_w, x4_w, z5_t, y5_t, x5_t, z5_s, y5_s, x5_s, z5_r, y5_r, x5_r, z5_w, y5_w, x5_w, z6_t, y6_t, x6_t, z6_s, y6_s, x6_s, z6_r, y6_r, x6_r, z6_w, y6_w, x6_w] using hp)
      refine gcall_of0 hp2 (by simp) (by simp [treO, stoO, thO, sub1, e_st, e_wt, e_ws, g_t0, g_t1, g_s0, g_s1, g_w0, g_w1]) (by simp [sub1]) rfl ?_
      generalize hpp : Go.Tre.putM S (insL lfN 0 key [v]) = pp at *
      obtain ⟨S', pg', key', e'⟩ := pp
      simp only at hR2 hok ⊢
      obtain ⟨hF, hFe⟩ : ∃ F, F = (([] : List Step).foldr upF ⟨S', [], pg', key', e'⟩) := ⟨_, rfl⟩
      have hR3 : R = finU root 0 false hF := by rw [hFe]; exact hR2
      have gs : R.s = (finU root 0 false hF).s := (congrArg Ret.s hR3).trans (finU_s root _ _ hF).1
      have gr : R.root = (finU root 0 false hF).root := (congrArg Ret.root hR3).trans (finU_s root _ _ hF).2.1
      have ge : R.e = (finU root 0 false hF).e := (congrArg Ret.e hR3).trans (finU_s root _ _ hF).2.2.1
      have gw : R.was = if R.e = 0 then 0 else 0 := by rw [ge]; exact (congrArg Ret.was hR3).trans (finU_s root _ _ hF).2.2.2.1
      have gh : R.had = if R.e = 0 then false else false := by rw [ge]; exact (congrArg Ret.had hR3).trans (finU_s root _ _ hF).2.2.2.2
      by_cases c4 : e' = 0
      · subst c4
        have hup := up34 nx (nx + 2) t s (nx + 3) (nx + 3 + 1) (nx + 3 + 2) (b + 2) ⟨by omega, ⟨by omega, by omega, by omega, by omega, by omega, by omega⟩, by omega, by omega, by omega⟩ ⟨by omega, by omega, by omega, by omega, by omega, by omega⟩ root ⟨S', [], pg', key', 0⟩ hok rfl ([] : List Step) (by simp) (by first | omega | simp) (by omega)
        simp only at hup
        rw [← hFe, ← ge, ← gs, ← gr] at hup
        simp [trB, stB, stR, treO, stoO, thO, e_st, e_wt, e_ws, g_t0, g_t1, g_s0, g_s1, g_w0, g_w1]
        refine gcall_of0 hup (by simp) (by simp [chO, treO, stoO, thO, sub1, e_st, g_t0, f_t4, g_s0, f_s4]) (by simp [sub1]) rfl ?_
        by_cases c5 : R.e = 0
        · rw [if_pos c5] at gw gh
          rw [gw, gh]
          simp [c5, chB, chO, trB, stB, stR, treO, stoO, thO, Try.results11, e_ts, e_st, g_t0, g_t1, l_t2, f_t4, g_s0, g_s1, l_s2, f_s4]
          exact ⟨[(nx, nx + 3 + 3), (nx + 1, nx + 3 + 4)], by simp [e_ts, e_st, g_t0, g_t1, g_t7, f_t7, g_s0, g_s1, g_s7, f_s7]; intro a b h; omega⟩
        · rw [if_neg c5] at gw gh
          rw [gw, gh]
          have c5' : (R.e != 0) = true := by simpa using c5
          simp [c5', chB, chO, trB, stB, stR, treO, stoO, thO, Try.results11, e_ts, e_st, g_t0, g_t1, l_t2, f_t4, g_s0, g_s1, l_s2, f_s4]
          exact ⟨[(nx, nx + 3 + 3), (nx + 1, nx + 3 + 4)], by simp [e_ts, e_st, g_t0, g_t1, g_t7, f_t7, g_s0, g_s1, g_s7, f_s7]; intro a b h; omega⟩
      · have hfe : R = ⟨S', root, 0, false, e'⟩ := by
          rw [hR3, hFe, foldr_err (by exact c4)]; unfold finU; rw [if_neg c4]
        rw [hfe]
        have c4' : (e' != 0) = true := by simpa using c4
        have c4'' : (e' == 0) = false := by simpa using c4
        simp [c4', c4'', trB, stB, stR, treO, stoO, thO, Try.results11, e_ts, e_st, e_wt, e_ws, g_t0, g_t1, l_t2, g_s0, g_s1, l_s2, g_w0, g_w1]
        exact ⟨[(nx, nx + 3), (nx + 1, nx + 3 + 1)], by simp [e_ts, e_st, g_t0, g_t1, g_t4, f_t4, g_s0, g_s1, g_s4, f_s4]; intro a b h; omega⟩
    · rw [List.concat_eq_append] at hR2 hst ⊢
      obtain ⟨hsl, hx, hxp, hl40⟩ := hst l x rfl
      have w1 : IntKind.i64.wrap ((l.length : Int) + 1 - 1) = (l.length : Int) := by rw [wrap64_id (by omega) (by omega)]; omega
      have w2 : IntKind.i64.wrap (l.length : Int) = (l.length : Int) := wrap64_id (by omega) (by omega)
      have tk : List.take l.length (l.map stP ++ [stP x]) = l.map stP := List.take_left' (by simp)
      simp [trB, stB, stR, treO, stoO, thO, w2, tk, e_st, e_wt, e_ws, f_t0, f_t1, f_s0, f_s1, f_w0, f_w1]
      refine ⟨by intro y hy; rcases hy with ⟨a, _, rfl⟩ | rfl <;> rfl, ?_⟩
      refine pcall_of (findB x.n key (by have := (right_sm hx).ks; omega)) (by simp) ?_
      have hx4 := hx.len
      have hxv : x.n.vs.length ≤ 100 := by have := hx.form; split at this <;> omega
      by_cases ch : hadM x.n key = true
      · obtain ⟨hfi, hfk⟩ := had_lt ch
        have hfv : findM x.n key < x.n.vs.length := by have := hx.form; omega
        have hgx : getX x key = (x.n.vs[findM x.n key], true) := by
          unfold getX; rw [if_pos ch, List.getD_eq_getElem?_getD, List.getElem?_eq_getElem hfv]; rfl
        obtain ⟨hrf, hrs, hrl⟩ := rem_fm hx hfi
        have hrv : (remL x.n (findM x.n key)).vs.length ≤ 100 := by simp [remL]; omega
        have hsm := insL_sm (i := findM x.n key) (us := [v]) hrs hkl (by omega) hrv (by simp)
        have hlf : putLf x.n key v = insL (remL x.n (findM x.n key)) (findM x.n key) key [v] := by unfold putLf; rw [if_pos ch]
        have hok := leaf_ok (n := x.n) hS (by omega) [x.p] (key := key) (v := v) (by rw [hlf]; exact hsm) (by simp) (by simpa using hxp)
        simp only [putU, lastX, List.getLast?_concat, List.dropLast_concat, upAll, leafUp, hlf, hgx] at hR2 hok
        simp [ch, hfv]
        refine pcall_of (remB x.n (findM x.n key) (right_sm hx) (right_fm hx) hfi) (by simp) ?_
        simp [f_t1, f_s1, f_w1]
        refine pcall_of (insB (remL x.n (findM x.n key)) (findM x.n key) key [v] hrs (by simp) hrf (by omega)) (by simp) ?_
        simp
        refine gcall_of0 (put32 nx (nx + 2) t s r w (nx + 3) b ⟨by omega, ⟨by omega, by omega, by omega, by omega, by omega, by omega⟩, by omega, by omega, by omega⟩ ⟨by omega, by omega, by omega, by omega, by omega, by omega⟩ S hS (by omega) root [x.p] (insL (remL x.n (findM x.n key)) (findM x.n key) key [v]) hsm) (by simp) (by simp [chO, treO, stoO, thO, sub1, e_st, e_wt, e_ws, g_t0, g_t1, g_s0, g_s1, g_w0, g_w1]) (by simp [sub1, g_r2]) rfl ?_
        generalize hpp : Go.Tre.putM S (insL (remL x.n (findM x.n key)) (findM x.n key) key [v]) = pp at *
        obtain ⟨S', pg', key', e'⟩ := pp
        simp only at hR2 hok ⊢
        obtain ⟨hF, hFe⟩ : ∃ F, F = (l.foldr upF ⟨S', [x.p], pg', key', e'⟩) := ⟨_, rfl⟩
        have hR3 : R = finU root x.n.vs[findM x.n key] true hF := by rw [hFe]; exact hR2
        have gs : R.s = (finU root 0 false hF).s := (congrArg Ret.s hR3).trans (finU_s root _ _ hF).1
        have gr : R.root = (finU root 0 false hF).root := (congrArg Ret.root hR3).trans (finU_s root _ _ hF).2.1
        have ge : R.e = (finU root 0 false hF).e := (congrArg Ret.e hR3).trans (finU_s root _ _ hF).2.2.1
        have gw : R.was = if R.e = 0 then x.n.vs[findM x.n key] else 0 := by rw [ge]; exact (congrArg Ret.was hR3).trans (finU_s root _ _ hF).2.2.2.1
        have gh : R.had = if R.e = 0 then true else false := by rw [ge]; exact (congrArg Ret.had hR3).trans (finU_s root _ _ hF).2.2.2.2
        by_cases c4 : e' = 0
        · subst c4
          have hup := up34 nx (nx + 2) t s (nx + 3) (nx + 3 + 1) (nx + 3 + 2) (b + 2) ⟨by omega, ⟨by omega, by omega, by omega, by omega, by omega, by omega⟩, by omega, by omega, by omega⟩ ⟨by omega, by omega, by omega, by omega, by omega, by omega⟩ root ⟨S', [x.p], pg', key', 0⟩ hok rfl l hsl (by first | omega | simp) (by omega)
          simp only at hup
          rw [← hFe, ← ge, ← gs, ← gr] at hup
          simp [chB, chO, trB, stB, stR, treO, stoO, thO, e_st, e_wt, e_ws, g_t0, g_t1, g_s0, g_s1, g_r2, g_w0, g_w1]
          refine gcall_of0 hup (by simp) (by simp [chO, treO, stoO, thO, sub1, e_st, g_t0, f_t4, g_s0, f_s4]) (by simp [sub1]) rfl ?_
          by_cases c5 : R.e = 0
          · rw [if_pos c5] at gw gh
            rw [gw, gh]
            simp [c5, chB, chO, trB, stB, stR, treO, stoO, thO, Try.results11, e_ts, e_st, g_t0, g_t1, l_t2, f_t4, g_s0, g_s1, l_s2, f_s4]
            exact ⟨[(nx, nx + 3 + 3), (nx + 1, nx + 3 + 4)], by simp [e_ts, e_st, g_t0, g_t1, g_t7, f_t7, g_s0, g_s1, g_s7, f_s7]; intro a b h; omega⟩
          · rw [if_neg c5] at gw gh
            rw [gw, gh]
            have c5' : (R.e != 0) = true := by simpa using c5
            simp [c5', chB, chO, trB, stB, stR, treO, stoO, thO, Try.results11, e_ts, e_st, g_t0, g_t1, l_t2, f_t4, g_s0, g_s1, l_s2, f_s4]
            exact ⟨[(nx, nx + 3 + 3), (nx + 1, nx + 3 + 4)], by simp [e_ts, e_st, g_t0, g_t1, g_t7, f_t7, g_s0, g_s1, g_s7, f_s7]; intro a b h; omega⟩
        · have hfe : R = ⟨S', root, 0, false, e'⟩ := by
            rw [hR3, hFe, foldr_err (by exact c4)]; unfold finU; rw [if_neg c4]
          rw [hfe]
          have c4' : (e' != 0) = true := by simpa using c4
          have c4'' : (e' == 0) = false := by simpa using c4
          simp [c4', c4'', chB, chO, trB, stB, stR, treO, stoO, thO, Try.results11, e_ts, e_st, e_wt, e_ws, g_t0, g_t1, l_t2, g_s0, g_s1, l_s2, g_r2, g_w0, g_w1]
          exact ⟨[(nx, nx + 3), (nx + 1, nx + 3 + 1)], by simp [e_ts, e_st, g_t0, g_t1, g_t4, f_t4, g_s0, g_s1, g_s4, f_s4]; intro a b h; omega⟩
      · have ch' : hadM x.n key = false := by simpa using ch
        have hgx : getX x key = (0, false) := by unfold getX; rw [if_neg ch]
        have hsm := insL_sm (i := findM x.n key) (us := [v]) (right_sm hx) hkl (by omega) hxv (by simp)
        have hlf : putLf x.n key v = insL x.n (findM x.n key) key [v] := by unfold putLf; rw [if_neg ch]
        have hok := leaf_ok (n := x.n) hS (by omega) [x.p] (key := key) (v := v) (by rw [hlf]; exact hsm) (by simp) (by simpa using hxp)
        simp only [putU, lastX, List.getLast?_concat, List.dropLast_concat, upAll, leafUp, hlf, hgx] at hR2 hok
        simp [ch']
        refine pcall_of (insB x.n (findM x.n key) key [v] (right_sm hx) (by simp) (right_fm hx) (findM_le _ _)) (by simp) ?_
        simp
        refine gcall_of0 (put32 nx (nx + 2) t s r w (nx + 3) b ⟨by omega, ⟨by omega, by omega, by omega, by omega, by omega, by omega⟩, by omega, by omega, by omega⟩ ⟨by omega, by omega, by omega, by omega, by omega, by omega⟩ S hS (by omega) root [x.p] (insL x.n (findM x.n key) key [v]) hsm) (by simp) (by simp [chO, treO, stoO, thO, sub1, e_st, e_wt, e_ws, g_t0, g_t1, g_s0, g_s1, g_w0, g_w1]) (by simp [sub1, g_r2]) rfl ?_
        generalize hpp : Go.Tre.putM S (insL x.n (findM x.n key) key [v]) = pp at *
        obtain ⟨S', pg', key', e'⟩ := pp
        simp only at hR2 hok ⊢
        obtain ⟨hF, hFe⟩ : ∃ F, F = (l.foldr upF ⟨S', [x.p], pg', key', e'⟩) := ⟨_, rfl⟩
        have hR3 : R = finU root 0 false hF := by rw [hFe]; exact hR2
        have gs : R.s = (finU root 0 false hF).s := (congrArg Ret.s hR3).trans (finU_s root _ _ hF).1
        have gr : R.root = (finU root 0 false hF).root := (congrArg Ret.root hR3).trans (finU_s root _ _ hF).2.1
        have ge : R.e = (finU root 0 false hF).e := (congrArg Ret.e hR3).trans (finU_s root _ _ hF).2.2.1
        have gw : R.was = if R.e = 0 then 0 else 0 := by rw [ge]; exact (congrArg Ret.was hR3).trans (finU_s root _ _ hF).2.2.2.1
        have gh : R.had = if R.e = 0 then false else false := by rw [ge]; exact (congrArg Ret.had hR3).trans (finU_s root _ _ hF).2.2.2.2
        by_cases c4 : e' = 0
        · subst c4
          have hup := up34 nx (nx + 2) t s (nx + 3) (nx + 3 + 1) (nx + 3 + 2) (b + 2) ⟨by omega, ⟨by omega, by omega, by omega, by omega, by omega, by omega⟩, by omega, by omega, by omega⟩ ⟨by omega, by omega, by omega, by omega, by omega, by omega⟩ root ⟨S', [x.p], pg', key', 0⟩ hok rfl l hsl (by first | omega | simp) (by omega)
          simp only at hup
          rw [← hFe, ← ge, ← gs, ← gr] at hup
          simp [chB, chO, trB, stB, stR, treO, stoO, thO, e_st, e_wt, e_ws, g_t0, g_t1, g_s0, g_s1, g_r2, g_w0, g_w1]
          refine gcall_of0 hup (by simp) (by simp [chO, treO, stoO, thO, sub1, e_st, g_t0, f_t4, g_s0, f_s4]) (by simp [sub1]) rfl ?_
          by_cases c5 : R.e = 0
          · rw [if_pos c5] at gw gh
            rw [gw, gh]
            simp [c5, chB, chO, trB, stB, stR, treO, stoO, thO, Try.results11, e_ts, e_st, g_t0, g_t1, l_t2, f_t4, g_s0, g_s1, l_s2, f_s4]
            exact ⟨[(nx, nx + 3 + 3), (nx + 1, nx + 3 + 4)], by simp [e_ts, e_st, g_t0, g_t1, g_t7, f_t7, g_s0, g_s1, g_s7, f_s7]; intro a b h; omega⟩
          · rw [if_neg c5] at gw gh
            rw [gw, gh]
            have c5' : (R.e != 0) = true := by simpa using c5
            simp [c5', chB, chO, trB, stB, stR, treO, stoO, thO, Try.results11, e_ts, e_st, g_t0, g_t1, l_t2, f_t4, g_s0, g_s1, l_s2, f_s4]
            exact ⟨[(nx, nx + 3 + 3), (nx + 1, nx + 3 + 4)], by simp [e_ts, e_st, g_t0, g_t1, g_t7, f_t7, g_s0, g_s1, g_s7, f_s7]; intro a b h; omega⟩
        · have hfe : R = ⟨S', root, 0, false, e'⟩ := by
            rw [hR3, hFe, foldr_err (by exact c4)]; unfold finU; rw [if_neg c4]
          rw [hfe]
          have c4' : (e' != 0) = true := by simpa using c4
          have c4'' : (e' == 0) = false := by simpa using c4
          simp [c4', c4'', chB, chO, trB, stB, stR, treO, stoO, thO, Try.results11, e_ts, e_st, e_wt, e_ws, g_t0, g_t1, l_t2, g_s0, g_s1, l_s2, g_r2, g_w0, g_w1]
          exact ⟨[(nx, nx + 3), (nx + 1, nx + 3 + 1)], by simp [e_ts, e_st, g_t0, g_t1, g_t4, f_t4, g_s0, g_s1, g_s4, f_s4]; intro a b h; omega⟩
  · have c2' : (e != 0) = true := by simpa using c2
    rw [if_neg c2] at hR2
    rw [hR2]
    simp [trB, stB, stR, treO, stoO, thO, c2', Try.results11, e_ts, e_st, e_wt, e_ws, g_t1, l_t2, g_s1, l_s2]
    exact ⟨[(nx, r), (nx + 1, w)], by simp [e_ts, e_st, e_tw, e_wt, e_sw, e_ws, g_t0, g_t1, g_s0, g_s1]; intro a b h; omega⟩
end Go.Av
