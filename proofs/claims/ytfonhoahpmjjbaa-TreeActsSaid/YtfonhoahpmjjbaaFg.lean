/- What Put and Delete keep; the law's own try; TreeOld computes true; how rows are read. -/
import Derived.Test.YtfonhoahpmjjbaaFf
set_option linter.all false
/-! part W29 -/
namespace Go.Av
open Go.Proofs Go.Tre
set_option maxRecDepth 100000

theorem new9 (s nx : Nat) (hs : s < nx) (root : Int) :
    GenC Try.prog 9 [.ifc 24 (.obj s 0), .p (.int root)] ⟨[], [], nx⟩ (.obj nx 0) ⟨[(nx, treO s root)], [], nx + 1⟩ := by
  refine gen_of_aw (rs := [_]) [8] [] [] mixed Try.func9 rfl (by kernel_rfl) (by kernel_rfl) (by simp [Try.ntmps9]) rfl ?_
  have e1 : ¬ s = nx := by omega
  have e2 : s < nx + 1 := by omega
  simp [treO]
  exact ⟨[], by simp [e2]; try rfl⟩
theorem root10 (t s r w nx : Nat) (h : Ids4 t s r w nx) (S : Sto) (root : Int) :
    GenC Try.prog 10 [.obj t 0] ⟨trB t s r w S root, stR r, nx⟩ (.p (.int root)) ⟨trB t s r w S root, stR r, nx⟩ := by
  have h' := h
  obtain ⟨ht, ⟨hs, hr, hw, sr, sw, rw_⟩, ts, tr, tw⟩ := h
  have e_ts : ¬ t = s := by omega
  have e_st : ¬ s = t := by omega
  have e_tw : ¬ t = w := by omega
  have e_wt : ¬ w = t := by omega
  have e_sw : ¬ s = w := by omega
  have e_ws : ¬ w = s := by omega
  have l_t0 : t < nx := by omega
  have l_s0 : s < nx := by omega
  have l_r0 : r < nx := by omega
  have l_w0 : w < nx := by omega
  refine gen_of_aw (rs := [_]) [] [] [] mixed Try.func10 rfl (by kernel_rfl) (by kernel_rfl) (by simp [Try.ntmps10]) rfl ?_
  simp [trB, stB, stR, treO, stoO, thO, Try.results10, e_ts, e_tw, e_sw, l_t0, l_s0, l_r0, l_w0]
  exact ⟨[], by simp [e_ts, e_st, e_tw, e_wt, e_sw, e_ws]⟩
end Go.Av

/-! part W30 -/
namespace Go.Av
open Go.Proofs Go.Tre
set_option maxRecDepth 100000
theorem finU_ok {b : Nat} {u : Up} {root was : Int} {had : Bool} (hu : UpOk b u) (hb : b + 2 ≤ 1000000000) (hr : i64b root) : SOkN (b + 1) (finU root was had u).s ∧ i64b (finU root was had u).root := by
  have hpl := hu.pg.1
  have hsm : NdSm ⟨false, [u.key], u.pg⟩ := ⟨by simp, by simp; omega, by simpa using hu.key⟩
  have h1 := hu.s.save hsm
  have h2 := save_i64 hu.s (by omega) ⟨false, [u.key], u.pg⟩
  unfold finU
  split
  · split
    · split
      · exact ⟨SOkN.drops _ h1, h2⟩
      · exact ⟨h1, hr⟩
    · refine ⟨SOkN.drops _ (hu.s.up (by omega)), ?_⟩
      simp only
      rw [List.getD_eq_getElem?_getD]
      rcases Nat.lt_or_ge 0 u.pg.length with h | h
      · rw [List.getElem?_eq_getElem h]; exact hu.pgb _ (List.getElem_mem h)
      · rw [List.getElem?_eq_none h]; exact ⟨by simp, by simp⟩
  · exact ⟨hu.s.up (by omega), hr⟩
theorem put_ok {b : Nat} {S : Sto} {root : Int} (hS : SOkN b S) (hr : i64b root) (hb : b + 1100 ≤ 100000000) {key : Key} (hk : key.length ≤ 1000000) (v : Int) : SOkN (b + 100) (putT S root key v).s ∧ i64b (putT S root key v).root := by
  unfold putT
  split
  · split
    · have hst := fun l x => way_st (S := S) (key := key) hr (l := l) (x := x)
      generalize wayM S key 40 root [] = q at *
      obtain ⟨l, e⟩ := q
      simp only at hst ⊢
      rcases List.eq_nil_or_concat l with rfl | ⟨l, x, rfl⟩
      · have hsl : NdSm lfN := ⟨by simp [lfN], by simp [lfN], by simp [lfN]⟩
        have hlf : putLf lfN key v = insL lfN 0 key [v] := rfl
        have hsm : NdSm (putLf lfN key v) := by
          rw [hlf]
          exact insL_sm hsl hk (by simp [lfN]) (by simp [lfN]) (by simp)
        have := finU_ok (was := (lastX [] key).1) (had := (lastX [] key).2) (leaf_ok (n := lfN) hS (by omega) [] (key := key) (v := v) hsm (by simp) (by simp)) (by omega) hr
        exact ⟨this.1.up (by omega), this.2⟩
      · rw [List.concat_eq_append] at hst ⊢
        obtain ⟨hsl, hx, hxp, hl40⟩ := hst l x rfl
        have hx4 := hx.len
        have hxv : x.n.vs.length ≤ 100 := by have := hx.form; split at this <;> omega
        have hsm : NdSm (putLf x.n key v) := by
          unfold putLf
          split
          · rename_i ch
            obtain ⟨hfi, hfk⟩ := had_lt ch
            obtain ⟨hrf, hrs, hrl⟩ := rem_fm hx hfi
            exact insL_sm hrs hk (by omega) (by simp [remL]; omega) (by simp)
          · exact insL_sm (right_sm hx) hk (by omega) hxv (by simp)
        have h1 := leaf_ok (n := x.n) hS (by omega) [x.p] (key := key) (v := v) hsm (by simp) (by simpa using hxp)
        have h2 := foldr_ok h1 l hsl (by omega)
        have h3 := finU_ok (was := (lastX (l ++ [x]) key).1) (had := (lastX (l ++ [x]) key).2) h2 (by omega) hr
        simp only [putU, List.getLast?_concat, List.dropLast_concat, upAll]
        exact ⟨h3.1.up (by omega), h3.2⟩
    · exact ⟨hS.up (by omega), hr⟩
  · exact ⟨hS.up (by omega), hr⟩
theorem topU_ok {b : Nat} {u : De} {root was : Int} (hu : DeOk b u) (hb : b + 2 ≤ 1000000000) (hr : i64b root) (hvb : ∀ v ∈ u.n.vs, i64b v) : SOkN (b + 1) (topU root was u).s ∧ i64b (topU root was u).root := by
  unfold topU
  split
  · rename_i he
    have h1 := hu.s.save (hu.n he).sm
    have h2 := save_i64 hu.s (by omega) u.n
    split
    · refine ⟨SOkN.drops _ (hu.s.up (by omega)), ?_⟩
      simp only
      split
      · exact ⟨by simp, by simp⟩
      · rw [List.getD_eq_getElem?_getD]
        rcases Nat.lt_or_ge 0 u.n.vs.length with h | h
        · rw [List.getElem?_eq_getElem h]; exact hvb _ (List.getElem_mem h)
        · rw [List.getElem?_eq_none h]; exact ⟨by simp, by simp⟩
    · split
      · exact ⟨SOkN.drops _ h1, h2⟩
      · exact ⟨h1, hr⟩
  · exact ⟨hu.s.up (by omega), hr⟩
/-- a step keeps the children's numbers small -/
theorem deF_vb {st : Step} {u : De} {b : Nat} (hx : StOk st) (hu : DeOk b u) (hb : b + 2 ≤ 1000000000) (hv : ∀ v ∈ u.n.vs, i64b v) : ∀ v ∈ (deF st u).n.vs, i64b v := by
  have hsv : ∀ v ∈ st.n.vs, i64b v := fun v h => by have h1 := hx.rt.vals v h; exact ⟨by have := h1.1; omega, by have := h1.2; omega⟩
  have hset : ∀ (n : Nd) (c : Nat) (p : Int), (∀ v ∈ n.vs, i64b v) → i64b p → ∀ v ∈ (withL n c p).vs, i64b v := fun n c p h hp v hv => by
    rcases List.mem_or_eq_of_mem_set hv with h1 | h1
    · exact h v h1
    · rw [h1]; exact hp
  have hnd : ∀ v ∈ nd0.vs, i64b v := by simp [nd0]
  unfold deF
  split
  · rename_i he
    split
    · unfold joinF
      split
      · rename_i htl
        have hrt := (tload_inv htl).2
        split
        · have hms := mgN_sm hx (hu.n he) hrt
          have hpg := putM_pg hu.s hb hms
          simp only
          split
          · have hrm : ∀ v ∈ (remL st.n (nbK st.c)).vs, i64b v := fun v h => hsv v (mem_del h)
            unfold abN
            split
            · intro v h
              simp only [insL, List.mem_append] at h
              rcases h with (h | h) | h
              · exact hrm v (List.mem_of_mem_take h)
              · exact hpg.2.2.1 v h
              · exact hrm v (List.mem_of_mem_drop h)
            · refine hset _ _ _ hrm ?_
              rw [List.getD_eq_getElem?_getD]
              rcases Nat.lt_or_ge 0 (putM u.s (mgN st u (tload u.s (st.n.vs.getD (nbI st.c) 0)).1)).2.1.length with h | h
              · rw [List.getElem?_eq_getElem h]; exact hpg.2.2.1 _ (List.getElem_mem h)
              · rw [List.getElem?_eq_none h]; exact ⟨by simp, by simp⟩
          · exact hnd
        · exact hnd
      · exact hnd
    · unfold sameF
      simp only
      split
      · exact hset _ _ _ hsv (save_i64 hu.s (by omega) _)
      · exact hnd
  · exact hv
theorem defold_vb {b : Nat} {u : De} (hu : DeOk b u) (hv : ∀ v ∈ u.n.vs, i64b v) : ∀ (l : List Step), (∀ x ∈ l, StOk x) → b + 2 * l.length ≤ 1000000000 → ∀ v ∈ (l.foldr deF u).n.vs, i64b v
  | [], _, _ => hv
  | x :: l, h, hb => by
    have ih := defold_vb hu hv l (fun y hy => h y (by simp [hy])) (by simp at hb; omega)
    have hk := defold_ok hu l (fun y hy => h y (by simp [hy])) (by simp at hb; omega)
    exact deF_vb (h x (by simp)) hk (by simp at hb; omega) ih
theorem del_ok {b : Nat} {S : Sto} {root : Int} (hS : SOkN b S) (hr : i64b root) (hb : b + 1100 ≤ 100000000) (key : Key) : SOkN (b + 100) (delT S root key).s ∧ i64b (delT S root key).root := by
  unfold delT
  split
  · have hst := fun l x => way_st (S := S) (key := key) hr (l := l) (x := x)
    generalize wayM S key 40 root [] = q at *
    obtain ⟨l, e⟩ := q
    simp only at hst ⊢
    rcases List.eq_nil_or_concat l with rfl | ⟨l, x, rfl⟩
    · exact ⟨hS.up (by omega), hr⟩
    · rw [List.concat_eq_append] at hst ⊢
      obtain ⟨hsl, hx, hxp, hl40⟩ := hst l x rfl
      simp only [List.getLast?_concat, List.dropLast_concat]
      split
      · rename_i ch
        obtain ⟨hfi, hfk⟩ := had_lt ch
        have h0 := del_start hS hx hxp hfi
        have hv0 : ∀ v ∈ (remL x.n (findM x.n key)).vs, i64b v := fun v h => by have h1 := hx.vals v (mem_del h); exact ⟨by have := h1.1; omega, by have := h1.2; omega⟩
        have h1 := defold_ok h0 l hsl (by omega)
        have h2 := defold_vb h0 hv0 l hsl (by omega)
        have h3 := topU_ok (was := (getX x key).1) h1 (by omega) hr h2
        unfold deAll
        exact ⟨h3.1.up (by omega), h3.2⟩
      · exact ⟨hS.up (by omega), hr⟩
  · exact ⟨hS.up (by omega), hr⟩
end Go.Av

/-! part W31 -/
namespace Go.Av
open Go.Proofs Go.Tre
set_option maxRecDepth 100000
def nxt (q : Sto × Int) (key : Key) (v : Int) : Sto × Int := ((putT q.1 q.2 key v).s, (putT q.1 q.2 key v).root)
def aw8 : Nat → Sto × Int
  | 0 => (⟨[], [], 0, 0⟩, 0)
  | j + 1 => nxt (aw8 j) [97 + UInt8.ofNat j] (j + 1 : Nat)
structure SInv (b : Nat) (S : Sto) (root : Int) (its : Its) : Prop where
  ok : SOkN b S
  rt : i64b root
  inv : Inv S root its
  fl : S.fl = 0
  len : its.length ≤ b
theorem put_s {b : Nat} {S : Sto} {root : Int} {its : Its} (h : SInv b S root its) (hb : b + 1100 ≤ 100000000) {key : Key} {v : Int} (hk : kOk key) (hv : vOk v) :
    SInv (b + 100) (putT S root key v).s (putT S root key v).root (rput its key v) ∧ (putT S root key v).e = 0 ∧ ((putT S root key v).was, (putT S root key v).had) = rget its key := by
  have hl := h.ok.len
  have hlen := h.len
  have hN : S.N + 200 < 1099511627776 := by unfold Sto.N; omega
  have hp := put_inv h.inv hk hv hN (by omega)
  have hk2 : key.length ≤ 1000000 := by have := hk.2; omega
  have ho := put_ok h.ok h.rt hb hk2 v
  have hsv := h.ok.sv
  rcases hp.or with ⟨_, _, _, _, _, hno⟩ | ⟨e, hw, hi⟩
  · exact absurd ⟨h.fl, hsv.1⟩ hno
  · refine ⟨⟨ho.1, ho.2, hi, by rw [hp.gr.fl]; exact h.fl, ?_⟩, e, hw⟩
    have : (rput its key v).length ≤ its.length + 1 := by
      unfold rput
      split <;> simp <;> omega
    omega
theorem del_s {b : Nat} {S : Sto} {root : Int} {its : Its} (h : SInv b S root its) (hb : b + 1100 ≤ 100000000) (key : Key) :
    SInv (b + 100) (delT S root key).s (delT S root key).root (rdel its key) ∧ (delT S root key).e = 0 ∧ ((delT S root key).was, (delT S root key).had) = rget its key := by
  have hl := h.ok.len
  have hlen := h.len
  have hN : S.N + 200 < 1099511627776 := by unfold Sto.N; omega
  have hsv := h.ok.sv
  have hp := del_inv (key := key) h.inv h.fl hsv.1 hN (by omega)
  have ho := del_ok h.ok h.rt hb key
  refine ⟨⟨ho.1, ho.2, hp.inv, by rw [hp.gr.fl]; exact h.fl, ?_⟩, hp.e, hp.was⟩
  have : (rdel its key).length ≤ its.length := by
    unfold rdel
    split <;> simp <;> omega
  omega
theorem s_zero : SInv 1 ⟨[], [], 0, 0⟩ 0 [] := ⟨⟨rfl, by simp, by simp, by simp⟩, by simp [i64b], ⟨rfl, .inl ⟨rfl, rfl, fun p => by simp [Sto.get]⟩⟩, rfl, by simp⟩
def aw8I : Nat → Its
  | 0 => []
  | j + 1 => rput (aw8I j) [97 + UInt8.ofNat j] (j + 1 : Nat)
theorem nxt_s {b : Nat} {q : Sto × Int} {its : Its} (h : SInv b q.1 q.2 its) (hb : b + 1100 ≤ 100000000) {key : Key} {v : Int} (hk : kOk key) (hv : vOk v) : SInv (b + 100) (nxt q key v).1 (nxt q key v).2 (rput its key v) := (put_s h hb hk hv).1
theorem aw8_step (j : Nat) : aw8 (j + 1) = nxt (aw8 j) [97 + UInt8.ofNat j] (j + 1 : Nat) := by rw [aw8]
theorem aw8I_step (j : Nat) : aw8I (j + 1) = rput (aw8I j) [97 + UInt8.ofNat j] (j + 1 : Nat) := by rw [aw8I]
theorem k_ok (c : UInt8) : kOk [c] := ⟨by simp, by simp⟩
theorem v_ok (j : Nat) (h : j < 5) : vOk (j + 1 : Nat) := ⟨by omega, by omega⟩
theorem aw8_nx {b : Nat} {q q' : Sto × Int} {i i' : Its} {key : Key} {v : Int} (hq : q' = nxt q key v) (hi : i' = rput i key v) (h : SInv b q.1 q.2 i) (hb : b + 1100 ≤ 100000000) (hk : kOk key) (hv : vOk v) : SInv (b + 100) q'.1 q'.2 i' := by
  subst hq; subst hi; exact nxt_s h hb hk hv
theorem aw8_inv (j : Nat) : j ≤ 5 → SInv (1 + 100 * j) (aw8 j).1 (aw8 j).2 (aw8I j) := by
  have h0 : SInv (1 + 100 * 0) (aw8 0).1 (aw8 0).2 (aw8I 0) := s_zero
  have hs := aw8_step
  have hi := aw8I_step
  generalize aw8 = A at *
  generalize aw8I = I at *
  induction j with
  | zero => exact fun _ => h0
  | succ j ih =>
    intro h
    have e : 1 + 100 * (j + 1) = 1 + 100 * j + 100 := by omega
    rw [e]
    exact aw8_nx (b := 1 + 100 * j) (hs j) (hi j) (ih (by omega)) (by omega) (k_ok _) (v_ok j (by omega))
theorem aw8_ok (j : Nat) (h : j ≤ 5) : SOkN (1 + 100 * j) (aw8 j).1 ∧ i64b (aw8 j).2 := ⟨(aw8_inv j h).ok, (aw8_inv j h).rt⟩
theorem aw8_scan : scanM (aw8 5).1 (aw8 5).2 [98] 3 = ([([98], 2), ([99], 3), ([100], 4)], 0) := by
  rw [scanM_law (aw8_inv 5 (by omega)).inv _ _ (by decide)]
  have : rscan (aw8I 5) [98] 3 = [([98], 2), ([99], 3), ([100], 4)] := by decide
  rw [this]
theorem aw8_pages : ((pagesG (aw8 5).1 (aw8 5).2).1.length, (pagesG (aw8 5).1 (aw8 5).2).2) = (3, 0) := by kernel_rfl
theorem aw8_del : ((delT (aw8 5).1 (aw8 5).2 [99]).was, (delT (aw8 5).1 (aw8 5).2 [99]).had, (delT (aw8 5).1 (aw8 5).2 [99]).e) = (3, true, 0) := by kernel_rfl

set_option maxHeartbeats 4000000 in
theorem awake8 : PureC Try.prog 8 [] (.bool true) := by
  refine pure_of_aw (ys := [_]) [12] [] [] mixed Try.func8 rfl (by kernel_rfl) (by kernel_rfl) (by simp [Try.ntmps8]) rfl ?_
  simp
  refine gcall_of0 (new9 0 1 (by omega) 0) (by simp) (by simp [sub1]) (by simp [sub1]) rfl ?_
  simp [treO]
  refine aw_loop (fun j : Nat => j ≤ 5)
    (fun j => [(1, .obj 1 0), (2, .full [.str [97], .str [98], .str [99], .str [100], .str [101]]), (3, .p (.int j))])
    (fun j => ⟨trB 1 0 2 3 (aw8 j).1 (aw8 j).2, stR 2, 4⟩) (fun j => 5 - j) 0 (by omega) _
    ((le_ownO 0 0 56 3 ⟨30, 4, [.p .nil, .p .nil, .p (.int 0), .p (.int 0)]⟩ [] (by simp) (by simp)).trans (le_voidO 0 1 4 1 ⟨30, 4, [.own 2 [], .p .nil, .p (.int 0), .p (.int 0)]⟩ (by simp [Tb.setOb, Tb.addRw]) (by simp)))
    (leN_of [] (by simp [aw8, trB, stB, stR, treO, stoO, thO, Tb.setOb, Tb.addRw, Tb.addOb])) ?_
  intro j hj
  rcases (by omega : j = 0 ∨ j = 1 ∨ j = 2 ∨ j = 3 ∨ j = 4 ∨ j = 5) with rfl | rfl | rfl | rfl | rfl | rfl
  · have wJ : IntKind.i64.wrap 1 = 1 := by decide
    simp [wJ, trB, stB, stR, treO, stoO, thO]
    have hok := aw8_ok 0 (by omega)
    refine gcall_of0 (put11 1 0 2 3 4 _ ⟨by omega, ⟨by omega, by omega, by omega, by omega, by omega, by omega⟩, by omega, by omega, by omega⟩ (aw8 0).1 hok.1 (by omega) (aw8 0).2 hok.2 [97] 1 (by simp)) (by simp) (by simp [trB, stB, treO, stoO, thO, sub1]) (by simp [stR, sub1]) rfl ?_
    simp [wJ, trB, stB, stR, treO, stoO, thO]
    exact ⟨1, by omega, by omega, leN_of [(2, 4), (3, 5)] (by simp [wJ, aw8, nxt, trB, stB, stR, treO, stoO, thO])⟩
  · have wJ : IntKind.i64.wrap 2 = 2 := by decide
    simp [wJ, trB, stB, stR, treO, stoO, thO]
    have hok := aw8_ok 1 (by omega)
    refine gcall_of0 (put11 1 0 2 3 4 _ ⟨by omega, ⟨by omega, by omega, by omega, by omega, by omega, by omega⟩, by omega, by omega, by omega⟩ (aw8 1).1 hok.1 (by omega) (aw8 1).2 hok.2 [98] 2 (by simp)) (by simp) (by simp [trB, stB, treO, stoO, thO, sub1]) (by simp [stR, sub1]) rfl ?_
    simp [wJ, trB, stB, stR, treO, stoO, thO]
    exact ⟨2, by omega, by omega, leN_of [(2, 4), (3, 5)] (by simp [wJ, aw8, nxt, trB, stB, stR, treO, stoO, thO])⟩
  · have wJ : IntKind.i64.wrap 3 = 3 := by decide
    simp [wJ, trB, stB, stR, treO, stoO, thO]
    have hok := aw8_ok 2 (by omega)
    refine gcall_of0 (put11 1 0 2 3 4 _ ⟨by omega, ⟨by omega, by omega, by omega, by omega, by omega, by omega⟩, by omega, by omega, by omega⟩ (aw8 2).1 hok.1 (by omega) (aw8 2).2 hok.2 [99] 3 (by simp)) (by simp) (by simp [trB, stB, treO, stoO, thO, sub1]) (by simp [stR, sub1]) rfl ?_
    simp [wJ, trB, stB, stR, treO, stoO, thO]
    exact ⟨3, by omega, by omega, leN_of [(2, 4), (3, 5)] (by simp [wJ, aw8, nxt, trB, stB, stR, treO, stoO, thO])⟩
  · have wJ : IntKind.i64.wrap 4 = 4 := by decide
    simp [wJ, trB, stB, stR, treO, stoO, thO]
    have hok := aw8_ok 3 (by omega)
    refine gcall_of0 (put11 1 0 2 3 4 _ ⟨by omega, ⟨by omega, by omega, by omega, by omega, by omega, by omega⟩, by omega, by omega, by omega⟩ (aw8 3).1 hok.1 (by omega) (aw8 3).2 hok.2 [100] 4 (by simp)) (by simp) (by simp [trB, stB, treO, stoO, thO, sub1]) (by simp [stR, sub1]) rfl ?_
    simp [wJ, trB, stB, stR, treO, stoO, thO]
    exact ⟨4, by omega, by omega, leN_of [(2, 4), (3, 5)] (by simp [wJ, aw8, nxt, trB, stB, stR, treO, stoO, thO])⟩
  · have wJ : IntKind.i64.wrap 5 = 5 := by decide
    simp [wJ, trB, stB, stR, treO, stoO, thO]
    have hok := aw8_ok 4 (by omega)
    refine gcall_of0 (put11 1 0 2 3 4 _ ⟨by omega, ⟨by omega, by omega, by omega, by omega, by omega, by omega⟩, by omega, by omega, by omega⟩ (aw8 4).1 hok.1 (by omega) (aw8 4).2 hok.2 [101] 5 (by simp)) (by simp) (by simp [trB, stB, treO, stoO, thO, sub1]) (by simp [stR, sub1]) rfl ?_
    simp [wJ, trB, stB, stR, treO, stoO, thO]
    exact ⟨5, by omega, by omega, leN_of [(2, 4), (3, 5)] (by simp [wJ, aw8, nxt, trB, stB, stR, treO, stoO, thO])⟩
  · have hok := aw8_ok 5 (by omega)
    have hs := aw8_scan
    have hp := aw8_pages
    have hd := aw8_del
    generalize aw8 5 = q at *
    obtain ⟨S, root⟩ := q
    simp only at hok hs hp hd
    simp only [Prod.mk.injEq] at hp hd
    have hi4 : Ids4 1 0 2 3 4 := ⟨by omega, ⟨by omega, by omega, by omega, by omega, by omega, by omega⟩, by omega, by omega, by omega⟩
    simp [trB, stB, stR, treO, stoO, thO]
    refine gcall_of0 (scan15 1 0 2 3 4 hi4 S (hok.1.ok (by omega)) root hok.2 [98] 3 _ hs (by simp)) (by simp) (by simp [trB, stB, treO, stoO, thO, sub1]) (by simp [stR, sub1]) rfl ?_
    simp [trB, stB, stR, treO, stoO, thO]
    refine gcall_of0 (pages27 1 0 2 3 4 hi4 S (hok.1.ok (by omega)) root hok.2 (pagesG S root).1 (Prod.ext rfl hp.2) (by omega)) (by simp) (by simp [trB, stB, treO, stoO, thO, sub1]) (by simp [stR, sub1]) rfl ?_
    simp [trB, stB, stR, treO, stoO, thO]
    have hdel := delete13 1 0 2 3 4 _ hi4 S hok.1 (by omega) root hok.2 [99]
    rw [hd.1, hd.2.1, hd.2.2] at hdel
    refine gcall_of0 hdel (by simp) (by simp [trB, stB, treO, stoO, thO, sub1]) (by simp [stR, sub1]) rfl ?_
    have hok3 : ItsOk [([98], 2), ([99], 3), ([100], 4)] := ⟨by simp, by simp⟩
    have hsame := same16 [([98], 2), ([99], 3), ([100], 4)] [([98], 2), ([99], 3), ([100], 4)] hok3 hok3
    simp [hp.1, trB, stB, stR, treO, stoO, thO, Try.results8]
    refine pcall_of hsame (by simp) ?_
    simp [hp.1, trB, stB, stR, treO, stoO, thO, Try.results8]
end Go.Av

/-! part W32 -/
namespace Go.Av
open Go.Proofs Go.Tre
set_option maxRecDepth 100000
structure ActT where
  a : Int
  b : Int
  k : Key
@[reducible] def actP (x : ActT) : PC := .agg false [.int x.a, .int x.b, .str x.k]
structure ActOk (x : ActT) : Prop where
  a : i64b x.a
  b : i64b x.b
  k : x.k.length ≤ 9223372036854775807
theorem root10s (t s nx : Nat) (ht : t < nx) (hs : s < nx) (root : Int) : GenC Try.prog 10 [.obj t 0] ⟨[(t, treO s root)], [], nx⟩ (.p (.int root)) ⟨[(t, treO s root)], [], nx⟩ := by
  refine gen_of_aw (rs := [_]) [] [] [] mixed Try.func10 rfl (by kernel_rfl) (by kernel_rfl) (by simp [Try.ntmps10]) rfl ?_
  simp [treO, Try.results10, ht, hs]
  exact ⟨[], by simp⟩
theorem SInv.up {b c : Nat} {S : Sto} {root : Int} {its : Its} (h : SInv b S root its) (hb : b ≤ c) : SInv c S root its := ⟨h.ok.up hb, h.rt, h.inv, h.fl, by have := h.len; omega⟩
theorem put_g {b : Nat} {S : Sto} {root : Int} {its : Its} (h : SInv b S root its) (hb : b + 1100 ≤ 100000000) {key : Key} {v : Int} (hk : kOk key) (hv : vOk v) : Grow S (putT S root key v).s := by
  have hl := h.ok.len
  have hlen := h.len
  exact (put_inv h.inv hk hv (by unfold Sto.N; omega) (by omega)).gr
theorem del_g {b : Nat} {S : Sto} {root : Int} {its : Its} (h : SInv b S root its) (hb : b + 1100 ≤ 100000000) (key : Key) : Grow S (delT S root key).s := by
  have hl := h.ok.len
  have hlen := h.len
  have hsv := h.ok.sv
  exact (del_inv (key := key) h.inv h.fl hsv.1 (by unfold Sto.N; omega) (by omega)).gr
theorem rput_len (its : Its) (key : Key) (v : Int) : (rput its key v).length ≤ its.length + 1 := by
  unfold rput
  split <;> simp <;> omega
theorem rdel_len (its : Its) (key : Key) : (rdel its key).length ≤ its.length := by
  unfold rdel
  split <;> simp <;> omega
theorem its_put {its : Its} {key : Key} {v : Int} (h : ItsOk its) (hl : its.length ≤ 100000000) (hk : key.length ≤ 100) : ItsOk (rput its key v) := by
  refine ⟨?_, fun x hx => ?_⟩
  · have : (rput its key v).length ≤ its.length + 1 := by
      unfold rput
      split <;> simp <;> omega
    omega
  · rcases mem_rput hx with rfl | hx
    · simp only; omega
    · exact h.keys x hx
theorem its_del {its : Its} {key : Key} (h : ItsOk its) (hl : its.length ≤ 100000000) : ItsOk (rdel its key) := by
  refine ⟨?_, fun x hx => h.keys x (mem_rdel hx)⟩
  have : (rdel its key).length ≤ its.length := by
    unfold rdel
    split <;> simp <;> omega
  omega
theorem back_set (S : Sto) (i : Nat) (hi : i < S.th.length) : List.take i (List.map (AV.p ∘ PC.bool) (S.back i).th) ++ AV.p (PC.bool true) :: List.drop (i + 1) (List.map (AV.p ∘ PC.bool) (S.back i).th) = List.map (AV.p ∘ PC.bool) (S.back (i + 1)).th := by
  have e : (S.back i).th = List.replicate i true ++ S.th.drop i := rfl
  have e' : (S.back (i + 1)).th = List.replicate (i + 1) true ++ S.th.drop (i + 1) := rfl
  have h1 : List.take i (S.back i).th = List.replicate i true := by rw [e]; exact List.take_left' (by simp)
  have h2 : List.drop (i + 1) (S.back i).th = S.th.drop (i + 1) := by
    rw [e, ← List.drop_drop]
    rw [List.drop_left' (by simp), List.drop_drop]
  rw [← List.map_take, ← List.map_drop, h1, h2, e', List.replicate_succ', List.map_append, List.map_append, List.append_assoc]
  rfl
theorem back_ok {b : Nat} {S : Sto} (h : SOkN b S) {i : Nat} (hi : i ≤ S.nd.length) : SOkN b (S.back i) := by
  have hw : S.th.length = S.nd.length := h.wf
  exact ⟨by simp [Sto.Wf, Sto.back]; omega, h.len, h.nds, h.sv⟩
structure L3 where
  j : Nat
  S : Sto
  root : Int
  its : Its
  S0 : Sto
  root0 : Int
  its0 : Its
structure L3Ok (n : Nat) (y : L3) : Prop where
  j : y.j ≤ n
  c : SInv (1 + 100 * y.j) y.S y.root y.its
  c0 : SInv (1 + 100 * y.j) y.S0 y.root0 y.its0
  g : Grow y.S0 y.S
  k : ItsOk y.its
  k0 : ItsOk y.its0
  l : y.its.length ≤ y.j
  l0 : y.its0.length ≤ y.j

set_option maxHeartbeats 4000000 in
theorem law3 (acts : List ActT) (pt : Int) : PureC Try.prog 3 [.sl (acts.map actP), .int pt] (.bool true) := by
  refine pure_of_aw (ys := [_]) [28] [(12, [(2, .f [1]), (7, .r 1)])] [(1, 0)] mixed Try.func3 rfl (by kernel_rfl) (by kernel_rfl) (by simp [Try.ntmps3]) rfl ?_
  simp
  refine pcall_of awake8 (by simp) ?_
  by_cases c1 : 80 < acts.length
  · have c1' : (80 : Int) < (acts.length : Int) := by omega
    simp [c1']
    refine pcall_of awake8 (by simp) ?_
    simp [Try.results3]
  have c1' : ¬ (80 : Int) < (acts.length : Int) := by omega
  have w1 : IntKind.i64.wrap ((acts.length : Int) + 1) = (acts.length : Int) + 1 := wrap64_id (by omega) (by omega)
  simp [c1']
  refine gcall_of0 (new9 0 1 (by omega) 0) (by simp) (by simp [sub1]) (by simp [sub1]) rfl ?_
  simp [treO, w1]
  refine ⟨by omega, ?_⟩
  generalize (IntKind.i64.wrap (IntKind.i64.wrap (pt.tmod ((acts.length : Int) + 1) + (acts.length : Int)) + 1)).tmod ((acts.length : Int) + 1) = cut
  refine aw_loop (fun y : L3 => L3Ok acts.length y)
    (fun y => [(0, .p (.sl (acts.map actP))), (5, .obj 0 0), (6, .obj 1 0), (7, .p (.int cut)), (8, .p (itsP y.its0)), (9, .p (itsP y.its)), (10, .p (.int y.root0)), (11, .p (.int y.S0.nd.length)), (12, .p (.int y.j))])
    (fun y => ⟨trB 1 0 2 3 y.S y.root, stR 2, 4⟩) (fun y => acts.length - y.j) ⟨0, ⟨[], [], 0, 0⟩, 0, [], ⟨[], [], 0, 0⟩, 0, []⟩ ⟨by simp, s_zero, s_zero, Grow.refl _, ⟨by simp, by simp⟩, ⟨by simp, by simp⟩, by simp, by simp⟩ _
    ((le_ownO 0 0 56 3 ⟨30, 4, [.p .nil, .p .nil, .p (.int 0), .p (.int 0)]⟩ [] (by simp) (by simp)).trans (le_voidO 0 1 4 1 ⟨30, 4, [.own 2 [], .p .nil, .p (.int 0), .p (.int 0)]⟩ (by simp [Tb.setOb, Tb.addRw]) (by simp)))
    (leN_of [] (by simp [trB, stB, stR, treO, stoO, thO, Tb.setOb, Tb.addRw, Tb.addOb])) ?_
  rintro ⟨j, S, root, its, S0, root0, its0⟩ ⟨hj, hc, hc0, hg, hio, hio0, hln, hln0⟩
  simp only at hj hc hc0 hg hio hio0 hln hln0
  have cj : (j : Int) ≤ (acts.length : Int) := by omega
  have hN := hc.ok.len
  have wj : IntKind.i64.wrap ((j : Int) + 1) = ((j + 1 : Nat) : Int) := by rw [wrap64_id (by omega) (by omega)]; rfl
  by_cases cc : (j : Int) = cut
  · have cc' : ((j : Int) == cut) = true := by simpa using cc
    simp [cj, cc', trB, stB, stR, treO, stoO, thO]
    refine fcall_of0 (root10s 1 0 4 (by omega) (by omega) root) (by simp) (by simp [treO, sub1]) (by simp [sub1]) rfl (by simp) ?_
    simp [treO]
    have hg := Grow.refl S
    have hc0 := hc
    have hio0 := hio
    have hln0 := hln
    by_cases cn : j = acts.length
    · have cn' : ((j : Int) == (acts.length : Int)) = true := by simp; omega
      have hm0 : S.nd.length ≤ S.nd.length := by obtain ⟨⟨X, hX⟩, _, _⟩ := hg; rw [hX]; simp
      have hwf : S.th.length = S.nd.length := hc.ok.wf
      simp [cn']
      refine aw_loop (fun i : Nat => i ≤ S.nd.length)
        (fun i => [(5, .obj 0 0), (6, .obj 1 0), (8, .p (itsP its)), (9, .p (itsP its)), (10, .p (.int root)), (11, .p (.int S.nd.length)), (14, .p (.int i))])
        (fun i => ⟨trB 1 0 2 3 (S.back i) root, stR 2, 4⟩) (fun i => S.nd.length - i) 0 (by omega) _ (AS.le_refl _ _) (leN_of [] (by simp [Sto.back, trB, stB, stR, treO, stoO, thO])) ?_
      intro i hi
      have hbl : (S.back i).th.length = S.th.length := by simp [Sto.back]; omega
      have e1 : (S.back i).nd = S.nd := rfl
      have e2 : (S.back i).sv = S.sv := rfl
      have e3 : (S.back i).fl = S.fl := rfl
      by_cases ci : i < S.nd.length
      · have ci' : (i : Int) < (S.nd.length : Int) := by omega
        have wi : IntKind.i64.wrap ((i : Int) + 1) = ((i + 1 : Nat) : Int) := by rw [wrap64_id (by omega) (by omega)]; rfl
        have hit : i < S.th.length := by omega
        have hbs := back_set S i hit
        simp [ci', hit, hbl, wi, trB, stB, stR, treO, stoO, thO]
        exact ⟨by omega, i + 1, by omega, by omega, leN_of [] (by simp [hbs]; simp [Sto.back]; omega)⟩
      · have ci' : ¬ (i : Int) < (S.nd.length : Int) := by omega
        have hie : i = S.nd.length := by omega
        subst hie
        have hbk := back_ok hc.ok hm0
        have hil : its.length ≤ 1000 := by omega
        have hil0 : its.length ≤ 1000 := by omega
        have hs0 : scanM (S.back S.nd.length) root [] 1000 = (its, 0) := by
          rw [old_law hc0.inv (fun p n h => back_get hg h) [] 1000 (by omega), rscan_all 1000 (by omega)]
        have hs1 : scanM (S.back S.nd.length) root [] 1000 = (its, 0) := by
          rw [old_law hc.inv (fun p n h => back_get2 _ hc.ok.wf hm0 h) [] 1000 (by omega), rscan_all 1000 (by omega)]
        simp [ci', trB, stB, stR, treO, stoO, thO]
        refine gcall_of0 (new9 0 4 (by omega) root) (by simp) (by simp [sub1]) (by simp [sub1]) rfl ?_
        simp [treO]
        refine gcall_of0 (scan15 4 0 2 3 5 ⟨by omega, ⟨by omega, by omega, by omega, by omega, by omega, by omega⟩, by omega, by omega, by omega⟩ _ (hbk.ok (by omega)) root hc0.rt [] 1000 _ hs0 (by omega)) (by simp) (by simp [treO, stoO, thO, sub1]) (by simp [sub1]) rfl ?_
        simp [trB, stB, stR, treO, stoO, thO]
        refine gcall_of0 (scan15 1 0 2 3 5 ⟨by omega, ⟨by omega, by omega, by omega, by omega, by omega, by omega⟩, by omega, by omega, by omega⟩ _ (hbk.ok (by omega)) root hc.rt [] 1000 _ hs1 (by omega)) (by simp) (by simp [treO, stoO, thO, sub1]) (by simp [sub1]) rfl ?_
        simp [trB, stB, stR, treO, stoO, thO]
        refine pcall_of (same16 _ _ hio0 hio0) (by simp) ?_
        simp
        refine pcall_of (same16 _ _ hio hio) (by simp) ?_
        simp [Try.results3]
    have cn' : ((j : Int) == (acts.length : Int)) = false := by simp; omega
    have hjn : j < acts.length := by omega
    obtain ⟨x, hx⟩ : ∃ x, acts[j] = x := ⟨_, rfl⟩
    by_cases k1 : x.k.length < 1
    · have k1' : (x.k.length : Int) < 1 := by omega
      have k1n : x.k = [] := List.length_eq_zero_iff.1 (by omega)
      simp [cn', hjn, hx, k1n, Try.results3]
    have k1' : ¬ (x.k.length : Int) < 1 := by omega
    have k1n : x.k ≠ [] := fun h => by rw [h] at k1; simp at k1
    by_cases k2 : 100 < x.k.length
    · have k2' : (100 : Int) < (x.k.length : Int) := by omega
      simp [cn', hjn, hx, k1', k2', Try.results3]
    have k2' : ¬ (100 : Int) < (x.k.length : Int) := by omega
    have hko : kOk x.k := ⟨by omega, by omega⟩
    have hil : its.length ≤ 100000000 := by have := hc.len; omega
    by_cases hm : x.a.tmod 2 = 0
    · have hm2 : (x.a.tmod 2 == 0) = true := by simpa using hm
      have hput : SInv (1 + 100 * j + 100) (putT S root x.k j).s (putT S root x.k j).root (rput its x.k j) ∧ Grow S (putT S root x.k j).s := ⟨(put_s hc (by omega) hko ⟨by omega, by omega⟩).1, put_g hc (by omega) hko ⟨by omega, by omega⟩⟩
      simp [cn', hjn, hx, k1', k2', hm]
      refine gcall_of0 (put11 1 0 2 3 5 _ ⟨by omega, ⟨by omega, by omega, by omega, by omega, by omega, by omega⟩, by omega, by omega, by omega⟩ S hc.ok (by omega) root hc.rt x.k j (by omega)) (by simp) (by simp [treO, stoO, thO, sub1]) (by simp [sub1]) rfl ?_
      simp [trB, stB, stR, treO, stoO, thO]
      refine pcall_of (rput12 its x.k j hio (by omega)) (by simp) ?_
      simp [wj]
      have hs := hput
      exact ⟨⟨j + 1, (putT S root x.k j).s, (putT S root x.k j).root, rput its x.k j, S, root, its⟩, ⟨by simp only; omega, hs.1.up (by simp only; omega), hc0.up (by simp only; omega), hg.trans hs.2, its_put hio hil (by omega), hio0, Nat.le_trans (rput_len its x.k j) (by simp only; omega), by simp only; omega⟩, by simp only; omega, leN_of [(2, 5), (3, 6)] (by simp)⟩
    · have hm2 : (x.a.tmod 2 == 0) = false := by simpa using hm
      have hdel : SInv (1 + 100 * j + 100) (delT S root x.k).s (delT S root x.k).root (rdel its x.k) ∧ Grow S (delT S root x.k).s := ⟨(del_s hc (by omega) x.k).1, del_g hc (by omega) x.k⟩
      simp [cn', hjn, hx, k1', k2', hm2]
      refine gcall_of0 (delete13 1 0 2 3 5 _ ⟨by omega, ⟨by omega, by omega, by omega, by omega, by omega, by omega⟩, by omega, by omega, by omega⟩ S hc.ok (by omega) root hc.rt x.k) (by simp) (by simp [treO, stoO, thO, sub1]) (by simp [sub1]) rfl ?_
      simp [trB, stB, stR, treO, stoO, thO]
      refine pcall_of (rdel14 its x.k hio (by omega)) (by simp) ?_
      simp [wj]
      have hs := hdel
      exact ⟨⟨j + 1, (delT S root x.k).s, (delT S root x.k).root, rdel its x.k, S, root, its⟩, ⟨by simp only; omega, hs.1.up (by simp only; omega), hc0.up (by simp only; omega), hg.trans hs.2, its_del hio hil, hio0, Nat.le_trans (rdel_len its x.k) (by simp only; omega), by simp only; omega⟩, by simp only; omega, leN_of [(2, 5), (3, 6)] (by simp)⟩
  · have cc' : ((j : Int) == cut) = false := by simpa using cc
    simp [cj, cc', trB, stB, stR, treO, stoO, thO]
    by_cases cn : j = acts.length
    · have cn' : ((j : Int) == (acts.length : Int)) = true := by simp; omega
      have hm0 : S0.nd.length ≤ S.nd.length := by obtain ⟨⟨X, hX⟩, _, _⟩ := hg; rw [hX]; simp
      have hwf : S.th.length = S.nd.length := hc.ok.wf
      simp [cn']
      refine aw_loop (fun i : Nat => i ≤ S0.nd.length)
        (fun i => [(5, .obj 0 0), (6, .obj 1 0), (8, .p (itsP its0)), (9, .p (itsP its)), (10, .p (.int root0)), (11, .p (.int S0.nd.length)), (14, .p (.int i))])
        (fun i => ⟨trB 1 0 2 3 (S.back i) root, stR 2, 4⟩) (fun i => S0.nd.length - i) 0 (by omega) _ (AS.le_refl _ _) (leN_of [] (by simp [Sto.back, trB, stB, stR, treO, stoO, thO])) ?_
      intro i hi
      have hbl : (S.back i).th.length = S.th.length := by simp [Sto.back]; omega
      have e1 : (S.back i).nd = S.nd := rfl
      have e2 : (S.back i).sv = S.sv := rfl
      have e3 : (S.back i).fl = S.fl := rfl
      by_cases ci : i < S0.nd.length
      · have ci' : (i : Int) < (S0.nd.length : Int) := by omega
        have wi : IntKind.i64.wrap ((i : Int) + 1) = ((i + 1 : Nat) : Int) := by rw [wrap64_id (by omega) (by omega)]; rfl
        have hit : i < S.th.length := by omega
        have hbs := back_set S i hit
        simp [ci', hit, hbl, wi, trB, stB, stR, treO, stoO, thO]
        exact ⟨by omega, i + 1, by omega, by omega, leN_of [] (by simp [hbs]; simp [Sto.back]; omega)⟩
      · have ci' : ¬ (i : Int) < (S0.nd.length : Int) := by omega
        have hie : i = S0.nd.length := by omega
        subst hie
        have hbk := back_ok hc.ok hm0
        have hil : its.length ≤ 1000 := by omega
        have hil0 : its0.length ≤ 1000 := by omega
        have hs0 : scanM (S.back S0.nd.length) root0 [] 1000 = (its0, 0) := by
          rw [old_law hc0.inv (fun p n h => back_get hg h) [] 1000 (by omega), rscan_all 1000 (by omega)]
        have hs1 : scanM (S.back S0.nd.length) root [] 1000 = (its, 0) := by
          rw [old_law hc.inv (fun p n h => back_get2 _ hc.ok.wf hm0 h) [] 1000 (by omega), rscan_all 1000 (by omega)]
        simp [ci', trB, stB, stR, treO, stoO, thO]
        refine gcall_of0 (new9 0 4 (by omega) root0) (by simp) (by simp [sub1]) (by simp [sub1]) rfl ?_
        simp [treO]
        refine gcall_of0 (scan15 4 0 2 3 5 ⟨by omega, ⟨by omega, by omega, by omega, by omega, by omega, by omega⟩, by omega, by omega, by omega⟩ _ (hbk.ok (by omega)) root0 hc0.rt [] 1000 _ hs0 (by omega)) (by simp) (by simp [treO, stoO, thO, sub1]) (by simp [sub1]) rfl ?_
        simp [trB, stB, stR, treO, stoO, thO]
        refine gcall_of0 (scan15 1 0 2 3 5 ⟨by omega, ⟨by omega, by omega, by omega, by omega, by omega, by omega⟩, by omega, by omega, by omega⟩ _ (hbk.ok (by omega)) root hc.rt [] 1000 _ hs1 (by omega)) (by simp) (by simp [treO, stoO, thO, sub1]) (by simp [sub1]) rfl ?_
        simp [trB, stB, stR, treO, stoO, thO]
        refine pcall_of (same16 _ _ hio0 hio0) (by simp) ?_
        simp
        refine pcall_of (same16 _ _ hio hio) (by simp) ?_
        simp [Try.results3]
    have cn' : ((j : Int) == (acts.length : Int)) = false := by simp; omega
    have hjn : j < acts.length := by omega
    obtain ⟨x, hx⟩ : ∃ x, acts[j] = x := ⟨_, rfl⟩
    by_cases k1 : x.k.length < 1
    · have k1' : (x.k.length : Int) < 1 := by omega
      have k1n : x.k = [] := List.length_eq_zero_iff.1 (by omega)
      simp [cn', hjn, hx, k1n, Try.results3]
    have k1' : ¬ (x.k.length : Int) < 1 := by omega
    have k1n : x.k ≠ [] := fun h => by rw [h] at k1; simp at k1
    by_cases k2 : 100 < x.k.length
    · have k2' : (100 : Int) < (x.k.length : Int) := by omega
      simp [cn', hjn, hx, k1', k2', Try.results3]
    have k2' : ¬ (100 : Int) < (x.k.length : Int) := by omega
    have hko : kOk x.k := ⟨by omega, by omega⟩
    have hil : its.length ≤ 100000000 := by have := hc.len; omega
    by_cases hm : x.a.tmod 2 = 0
    · have hm2 : (x.a.tmod 2 == 0) = true := by simpa using hm
      have hput : SInv (1 + 100 * j + 100) (putT S root x.k j).s (putT S root x.k j).root (rput its x.k j) ∧ Grow S (putT S root x.k j).s := ⟨(put_s hc (by omega) hko ⟨by omega, by omega⟩).1, put_g hc (by omega) hko ⟨by omega, by omega⟩⟩
      simp [cn', hjn, hx, k1', k2', hm]
      refine gcall_of0 (put11 1 0 2 3 5 _ ⟨by omega, ⟨by omega, by omega, by omega, by omega, by omega, by omega⟩, by omega, by omega, by omega⟩ S hc.ok (by omega) root hc.rt x.k j (by omega)) (by simp) (by simp [treO, stoO, thO, sub1]) (by simp [sub1]) rfl ?_
      simp [trB, stB, stR, treO, stoO, thO]
      refine pcall_of (rput12 its x.k j hio (by omega)) (by simp) ?_
      simp [wj]
      have hs := hput
      exact ⟨⟨j + 1, (putT S root x.k j).s, (putT S root x.k j).root, rput its x.k j, S0, root0, its0⟩, ⟨by simp only; omega, hs.1.up (by simp only; omega), hc0.up (by simp only; omega), hg.trans hs.2, its_put hio hil (by omega), hio0, Nat.le_trans (rput_len its x.k j) (by simp only; omega), by simp only; omega⟩, by simp only; omega, leN_of [(2, 5), (3, 6)] (by simp)⟩
    · have hm2 : (x.a.tmod 2 == 0) = false := by simpa using hm
      have hdel : SInv (1 + 100 * j + 100) (delT S root x.k).s (delT S root x.k).root (rdel its x.k) ∧ Grow S (delT S root x.k).s := ⟨(del_s hc (by omega) x.k).1, del_g hc (by omega) x.k⟩
      simp [cn', hjn, hx, k1', k2', hm2]
      refine gcall_of0 (delete13 1 0 2 3 5 _ ⟨by omega, ⟨by omega, by omega, by omega, by omega, by omega, by omega⟩, by omega, by omega, by omega⟩ S hc.ok (by omega) root hc.rt x.k) (by simp) (by simp [treO, stoO, thO, sub1]) (by simp [sub1]) rfl ?_
      simp [trB, stB, stR, treO, stoO, thO]
      refine pcall_of (rdel14 its x.k hio (by omega)) (by simp) ?_
      simp [wj]
      have hs := hdel
      exact ⟨⟨j + 1, (delT S root x.k).s, (delT S root x.k).root, rdel its x.k, S0, root0, its0⟩, ⟨by simp only; omega, hs.1.up (by simp only; omega), hc0.up (by simp only; omega), hg.trans hs.2, its_del hio hil, hio0, Nat.le_trans (rdel_len its x.k) (by simp only; omega), by simp only; omega⟩, by simp only; omega, leN_of [(2, 5), (3, 6)] (by simp)⟩
end Go.Av

/-! part W33 -/
namespace Go.Av
open Go.Proofs

theorem laidO : laidOutB Try.prog = true := by kernel_rfl
theorem cellsT3 : Try.prog.cellsOf 3 = 1 := by kernel_rfl
theorem cellsT9 : Try.prog.cellsOf 9 = 1 := by kernel_rfl
theorem cellsT36 : Try.prog.cellsOf 36 = 3 := by kernel_rfl
def intS (x : PC) : Prop := ∃ n : Int, x = .int n ∧ i64b n
def actS (x : PC) : Prop := ∃ a : ActT, x = actP a
def actsS (x : PC) : Prop := ∃ l : List ActT, x = .sl (l.map actP)
theorem list_of {α : Type} {f : α → PC} {xs : List PC} (h : ∀ x ∈ xs, ∃ a, x = f a) : ∃ l : List α, xs = l.map f := by
  induction xs with
  | nil => exact ⟨[], rfl⟩
  | cons x xs ih =>
    obtain ⟨l, rfl⟩ := ih fun y hy => h y (by simp [hy])
    obtain ⟨a, rfl⟩ := h x (by simp)
    exact ⟨a :: l, rfl⟩
theorem rdA : RdU Try.prog 36 actS := by
  refine (rd_struct (Ss := [_, _, _]) Try.underlying36 (by rw [cellsT36]; simp [totF, cellsT3, cellsT9])
    ⟨rfl, (rd_int Try.underlying3).c, (by simp [cellsT3]), (rd_int Try.underlying3).c, (by simp [cellsT3]), (rd_string Try.underlying9).c, trivial⟩).mono ?_
  rintro x ⟨ys, rfl, h⟩
  match ys, h with
  | [a, b, c], ⟨⟨n, ha, _⟩, ⟨m, hb, _⟩, ⟨s, hc, _⟩, _⟩ =>
    subst ha; subst hb; subst hc
    exact ⟨⟨n, m, s⟩, rfl⟩
  | [], h => exact h.elim
  | [_], h => exact h.2.elim
  | [_, _], h => exact h.2.2.elim
  | _ :: _ :: _ :: _ :: _, h => exact h.2.2.2.elim
theorem bounds_i64 {n : Int} (h : (Lit.int .i64 n).wf = true) : -9223372036854775808 ≤ n ∧ n ≤ 9223372036854775807 := by
  have a : IntKind.i64.min = -9223372036854775808 := rfl
  have b : IntKind.i64.max = 9223372036854775807 := rfl
  simp only [Lit.wf, Bool.and_eq_true, decide_eq_true_eq, a, b] at h
  exact h
theorem rd3 : RdV Try.prog 3 intS :=
  rv_one (by rw [Try.underlying3]; simp) (by rw [Try.underlying3]; simp) ((rd_int Try.underlying3).c.mono fun x ⟨n, h, hw⟩ => ⟨n, h, bounds_i64 hw⟩) (by rintro x ⟨s, rfl, _⟩ b xs h; cases h)
theorem rd22 : RdV Try.prog 22 actsS :=
  rv_one (by rw [Try.underlying22]; simp) (by rw [Try.underlying22]; simp) ((rd_slice Try.underlying22 (by rw [cellsT36]; omega) rdA).mono fun x ⟨xs, h, _, hv⟩ => by
    obtain ⟨l, rfl⟩ := list_of (f := actP) hv; exact ⟨l, h⟩) (by rintro x ⟨l, rfl⟩ b xs h; cases h)
theorem law3n {x y : PC} (hx : actsS x) (hy : intS y) : PureC Try.prog 3 [x, y] (.bool true) := by
  obtain ⟨l, rfl⟩ := hx
  obtain ⟨a, rfl, _⟩ := hy
  exact law3 l a
end Go.Av
