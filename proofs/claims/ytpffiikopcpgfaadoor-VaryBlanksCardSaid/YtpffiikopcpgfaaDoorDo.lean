/- What values say together, in great letters, with blanks; ControlJoins computes true. -/
import Derived.Test.YtpffiikopcpgfaaDoorDn
set_option linter.all false
/-! part Q79 -/
namespace Go.Av
open Go.Proofs

def firstI (p q : Int) : Int := if 0 ≤ p then p else q
def combC (c y : Ctl) : Ctl := (List.zipWith (· || ·) c.1 y.1, List.zipWith firstI c.2 y.2)
theorem first_step (i j v : Int) (P : Prop) [Decidable P] : (if P ∧ firstI i j < 0 then v else firstI i j) = firstI i (if P ∧ j < 0 then v else j) := by
  unfold firstI
  by_cases h : 0 ≤ i
  · simp only [h, if_true]; rw [if_neg (by omega)]
  · simp only [h, if_false]
theorem or_step (a b c : Bool) : (a || b || c) = (a || (b || c)) := Bool.or_assoc a b c
theorem step_comb {c y : Ctl} (h7 : c.1.length = 7) (h4 : c.2.length = 4) (g7 : y.1.length = 7) (g4 : y.2.length = 4) (p : List UInt8) : stepC (combC c y) p = combC c (stepC y p) := by
  rw [stepC_eq, stepC_eq]
  by_cases h : (readB p).2.2.2 = false
  · rw [if_pos h, if_pos h]
  · rw [if_neg h, if_neg h]
    obtain ⟨b0, b1, b2, b3, b4, b5, b6, i0, i1, i2, i3, rfl⟩ := ctl_ex h7 h4
    obtain ⟨c0, c1, c2, c3, c4, c5, c6, j0, j1, j2, j3, rfl⟩ := ctl_ex g7 g4
    simp only [combC, List.zipWith_cons_cons, List.zipWith_nil_left, stepN_eq, first_step, or_step]
theorem fold_comb {c : Ctl} (h7 : c.1.length = 7) (h4 : c.2.length = 4) : ∀ (L : List (List UInt8)) (y : Ctl), y.1.length = 7 → y.2.length = 4 → L.foldl stepC (combC c y) = combC c (L.foldl stepC y)
  | [], y, _, _ => rfl
  | p :: L, y, g7, g4 => by
    have := stepC_len g7 g4 p
    rw [List.foldl_cons, List.foldl_cons, step_comb h7 h4 g7 g4, fold_comb h7 h4 L _ this.1 this.2]
def IntsOk (c : Ctl) : Prop := ∀ i ∈ c.2, -1 ≤ i ∧ i ≤ 2147483647
theorem numB_le {m : Nat} {l : List UInt8} (hm : 9 ≤ m) : (numB m l).1 ≤ m := by
  unfold numB; split
  · simp
  · rename_i h
    split
    · simp
    · have := numF_le (most := m) (l := l) (by simpa using fun e => h (.inr e)) hm
      simp only; omega
theorem numD_le (a : List UInt8) (has : Bool) {wo : Int} (h : wo ≤ 2147483647) : numD a has wo ≤ 2147483647 := by
  unfold numD; split
  · exact h
  · split
    · simp
    · exact numB_le (m := MD) (by decide)
theorem stepC_ints {c : Ctl} (h7 : c.1.length = 7) (h4 : c.2.length = 4) (h : IntsOk c) (p : List UInt8) : IntsOk (stepC c p) := by
  rw [stepC_eq]
  split
  · exact h
  · obtain ⟨b0, b1, b2, b3, b4, b5, b6, i0, i1, i2, i3, rfl⟩ := ctl_ex h7 h4
    have v1 := numD_nn (readB p).2.1 (readB p).2.2.1 (wo := if (readB p).1 = nm9 then 2147483647 else 0) (by split <;> omega)
    have v2 := numD_le (readB p).2.1 (readB p).2.2.1 (wo := if (readB p).1 = nm9 then 2147483647 else 0) (by split <;> omega)
    rw [stepN_eq]
    generalize numD (readB p).2.1 (readB p).2.2.1 (if (readB p).1 = nm9 then 2147483647 else 0) = v at *
    intro i hi
    have z0 := h i0 (by simp)
    have z1 := h i1 (by simp)
    have z2 := h i2 (by simp)
    have z3 := h i3 (by simp)
    simp only [List.mem_cons, List.not_mem_nil, or_false] at hi
    rcases hi with rfl | rfl | rfl | rfl <;> split <;> first | assumption | (constructor <;> omega)
theorem fold_ints : ∀ (L : List (List UInt8)) (c : Ctl), c.1.length = 7 → c.2.length = 4 → IntsOk c → IntsOk (L.foldl stepC c)
  | [], _, _, _, h => h
  | p :: L, c, h7, h4, h => by
    have := stepC_len h7 h4 p
    exact fold_ints L _ this.1 this.2 (stepC_ints h7 h4 h p)
theorem ctl0_ints : IntsOk ctl0 := by
  intro i hi
  have : i = -1 := by simpa [ctl0] using hi
  subst this; decide
theorem parse_ints (vs : List (List UInt8)) : IntsOk (parseB vs) := fold_ints _ _ rfl rfl ctl0_ints
theorem comb_ctl0 {c : Ctl} (h7 : c.1.length = 7) (h4 : c.2.length = 4) (h : IntsOk c) : combC c ctl0 = c := by
  obtain ⟨b0, b1, b2, b3, b4, b5, b6, i0, i1, i2, i3, rfl⟩ := ctl_ex h7 h4
  have f : ∀ i ∈ [i0, i1, i2, i3], firstI i (-1) = i := fun i hi => by
    have := h i hi
    unfold firstI
    split <;> omega
  rw [ctl0_eq]
  simp only [combC, List.zipWith_cons_cons, List.zipWith_nil_left, Bool.or_false]
  rw [f i0 (by simp), f i1 (by simp), f i2 (by simp), f i3 (by simp)]
theorem parse_two (a b : List UInt8) : parseB [a, b] = combC (parseB [a]) (parseB [b]) := by
  have h := parseB_len [a]
  have e := fold_comb h.1 h.2 (spl1 b) ctl0 rfl rfl
  rw [comb_ctl0 h.1 h.2 (parse_ints _)] at e
  unfold parseB splitB at e ⊢
  simp only [List.flatMap_cons, List.flatMap_nil, List.append_nil, List.foldl_append] at e ⊢
  exact e
theorem clamp_ints {c : Ctl} (h : IntsOk c) : (c.1, c.2.map clampI) = c := by
  have : c.2.map clampI = c.2 := by
    conv => rhs; rw [← List.map_id c.2]
    refine List.map_congr_left fun i hi => ?_
    have := h i hi
    unfold clampI
    simp only [id]
    split
    · omega
    · rw [if_pos (by omega)]
  rw [this]
theorem ints_ok {c : Ctl} (h7 : c.1.length = 7) (h4 : c.2.length = 4) (h : IntsOk c) : CtlOk c := ⟨h7, h4, fun i hi => by have := h i hi; constructor <;> omega⟩
/-- in great letters -/
def upO (c : UInt8) : UInt8 := if 97 ≤ c.toNat ∧ c.toNat ≤ 122 then c - 32 else c
def upB (l : List UInt8) : List UInt8 := l.map upO
theorem up_app (a b : List UInt8) : upB (a ++ b) = upB a ++ upB b := by simp [upB]
theorem up_jn : ∀ L : List (List UInt8), upB (jnB L) = jnB (L.map upB)
  | [] => rfl
  | [p] => by rw [List.map_cons, List.map_nil, jnB_one, jnB_one]
  | p :: q :: L => by
    have := up_jn (q :: L)
    rw [jnB_cons, up_app, List.map_cons, List.map_cons, jnB_cons]
    rw [List.map_cons] at this
    rw [← this]; rfl
theorem up_dig {l : List UInt8} (h : l.all dig = true) : upB l = l := by
  unfold upB
  conv => rhs; rw [← List.map_id l]
  refine List.map_congr_left fun c hc => ?_
  have := List.all_eq_true.1 h c hc
  unfold dig at this
  simp only [Bool.and_eq_true, decide_eq_true_eq] at this
  unfold upO
  rw [if_neg (by omega)]; rfl
theorem up_opt (b : Bool) (w : List UInt8) : (optL b w).map upB = optL b (upB w) := by unfold optL; split <;> rfl
theorem up_arg (n : List UInt8) (k : Nat) : upB (n ++ 61 :: dec k) = upB n ++ 61 :: dec k := by
  rw [up_app]
  have : upB (61 :: dec k) = 61 :: dec k := by
    have e := up_dig (dec_dig k k (Nat.le_refl _))
    unfold upB at e ⊢
    rw [List.map_cons, e]; rfl
  rw [this]
theorem tk_upf : ∀ p ∈ flagsL, tkB (upB p) = true := by decide
theorem tk_upn : ∀ p ∈ numsL, tkB (upB p) = true := by decide
theorem parse_great {c : Ctl} (h7 : c.1.length = 7) (h4 : c.2.length = 4) : parseB [upB (printC c)] = (c.1, c.2.map clampI) := by
  have hg : ∀ p ∈ (partsC c).map upB, goodP p := by
    intro p hp
    obtain ⟨q, hq, rfl⟩ := List.mem_map.1 hp
    rcases part_mem h7 h4 hq with h | ⟨n, hn, i, hm, h0, rfl⟩
    · exact good_tk (tk_upf q h)
    · rw [up_arg]; exact good_arg (tk_upn n hn) (dec_tk _)
  have := spl_join ((partsC c).map upB) 0 hg
  rw [show sps 0 ++ jnB ((partsC c).map upB) = jnB ((partsC c).map upB) from rfl, ← up_jn] at this
  have e : parseB [upB (printC c)] = ((partsC c).map upB).foldl stepC ctl0 := by
    unfold parseB splitB
    simp only [List.flatMap_cons, List.flatMap_nil, List.append_nil]
    rw [show printC c = jnB (partsC c) from rfl, this]
  rw [e]
  obtain ⟨b0, b1, b2, b3, b4, b5, b6, i0, i1, i2, i3, rfl⟩ := ctl_ex h7 h4
  rw [partsC_eq]
  simp only [List.map_append, numL, up_opt, up_arg]
  have f : ∀ n m, tkB n = true → lowB n = m → (readB n).1 = m ∧ (readB n).2.2.2 = true := fun n m h1 h2 => by rw [readB_name h1]; exact ⟨h2, rfl⟩
  have g : ∀ (n m : List UInt8) (i : Int), tkB n = true → lowB n = m → readB (n ++ 61 :: dec i.toNat) = (m, dec i.toNat, true, true) := fun n m i h1 h2 => by rw [readB_arg h1 (dec_tk _), h2]
  exact fold_parts b0 b1 b2 b3 b4 b5 b6 i0 i1 i2 i3 _ _ _ _ _ _ _ _ _ _ _ (f _ _ rfl rfl) (f _ _ rfl rfl) (f _ _ rfl rfl) (f _ _ rfl rfl) (f _ _ rfl rfl) (f _ _ rfl rfl) (f _ _ rfl rfl) (g _ _ _ rfl rfl) (g _ _ _ rfl rfl) (g _ _ _ rfl rfl) (g _ _ _ rfl rfl)
def zz9 : List UInt8 := [122, 122, 57]
theorem parse_round {c : Ctl} (h7 : c.1.length = 7) (h4 : c.2.length = 4) : parseB [[32, 44, 32] ++ printC c ++ [44, 32, 44, 122, 122, 57]] = (c.1, c.2.map clampI) := by
  have e1 := spl_join_cm [] 1 (sps 1 ++ jnB (partsC c) ++ 44 :: (sps 1 ++ jnB [] ++ 44 :: zz9)) (by simp)
  rw [spl_join_cm (partsC c) 1 _ (fun p hp => part_good h7 h4 hp), spl_join_cm [] 1 zz9 (by simp), spl_name (n := zz9) (by rfl)] at e1
  have e : [32, 44, 32] ++ printC c ++ [44, 32, 44, 122, 122, 57] = sps 1 ++ jnB [] ++ 44 :: (sps 1 ++ jnB (partsC c) ++ 44 :: (sps 1 ++ jnB [] ++ 44 :: zz9)) := by
    rw [show printC c = jnB (partsC c) from rfl]
    simp [sps, jnB_nil, zz9]
  rw [e]
  unfold parseB splitB
  simp only [List.flatMap_cons, List.flatMap_nil, List.append_nil]
  rw [e1]
  simp only [List.nil_append, List.foldl_append, List.foldl_cons, List.foldl_nil]
  rw [fold_partsC h7 h4, stepC_eq, readB_name (n := zz9) (by rfl), if_neg (by simp), stepN_other (by decide)]
end Go.Av

/-! part Q80 -/
namespace Go.Av
open Go.Proofs

abbrev cls10 : List (Nat × List (Nat × Cls)) := [(6, [(1, .r 5), (4, .r 6), (7, .r 5), (10, .r 6), (13, .r 5), (16, .r 6), (19, .r 5), (22, .r 6), (25, .r 5), (28, .r 6), (31, .r 5), (34, .r 6), (37, .r 5), (40, .r 6), (44, .r 5), (46, .r 6), (50, .r 5), (52, .r 6), (56, .r 5), (58, .r 6), (62, .r 5), (64, .r 6), (67, .w [5, 6]), (68, .w [5, 6])]), (13, [(0, .r 7), (1, .r 9), (5, .w [5, 7, 9]), (8, .r 5), (12, .r 5), (18, .r 5)])]
theorem body10 : Tryd.f10.body.isSome = true := by kernel_rfl
theorem ok10 : codeOk cls10 [(6, .lf)] Tryd.f10.ntmps (Tryd.f10.body.get body10) = true := by kernel_rfl
end Go.Av

/-! part Q81 -/
namespace Go.Av
open Go.Proofs

theorem first35 (p q : Int) : PureC Tryd.prog 35 [.int p, .int q] (.int (firstI p q)) := by
  refine pure_of_aw (ys := [_]) [] [] [] mixed Tryd.func35 rfl (by kernel_rfl) (by kernel_rfl) (by simp [Tryd.ntmps35]) rfl ?_
  unfold firstI
  by_cases h : 0 ≤ p
  · simp [h, Tryd.results35]
  · simp [h, Tryd.results35]
def upM (l : List UInt8) (k : Nat) : List UInt8 := (l.take k).map upO ++ l.drop k
theorem upM_len (l : List UInt8) (k : Nat) : (upM l k).length = l.length := by simp [upM]; omega
theorem upM_at (l : List UInt8) (k : Nat) (h : k < l.length) : (upM l k)[k]? = some l[k] := by
  unfold upM
  rw [List.getElem?_append_right (by simp; omega)]
  simp [Nat.min_eq_left (Nat.le_of_lt h), h]
theorem upM_set (l : List UInt8) (k : Nat) (h : k < l.length) : (upM l k).set k (upO l[k]) = upM l (k + 1) := by
  unfold upM
  rw [List.set_append_right _ _ (by simp; omega)]
  have e : ((l.take k).map upO).length = k := by simp; omega
  rw [e, Nat.sub_self, List.drop_eq_getElem_cons h, List.set_cons_zero, List.take_succ_eq_append_getElem h, List.map_append, List.append_assoc]
  rfl
theorem upO_nat (c : UInt8) (h1 : 97 ≤ c.toNat) (h2 : c.toNat ≤ 122) : ((upO c).toNat : Int) = (c.toNat : Int) - 32 := by
  unfold upO
  rw [if_pos ⟨h1, h2⟩, UInt8.toNat_sub]
  have : (32 : UInt8).toNat = 32 := rfl
  rw [this]; omega
/-- what is known within a region -/
def CutJ (TB : Tb) (rs : List (Nat × AV)) (st : AS) : Prop := st.tb = TB ∧ ∀ p ∈ rs, st.sl p.1 = p.2
set_option maxHeartbeats 8000000 in
set_option maxRecDepth 100000 in
theorem law10 (a b : List UInt8) (ha : a.length ≤ 9223372036854775807) (hb : b.length ≤ 9223372036854775807) : PureC Tryd.prog 10 [.str a, .str b] (.bool true) := by
  refine pure_of_awT (ys := [_]) [104] cls10 [(5, 0), (6, 1), (7, 2), (9, 3)] [(6, .lf)] mixed Tryd.func10 rfl (by kernel_rfl) ok10 (by simp [Tryd.ntmps10]) rfl ?_
  simp
  refine pcall_of awake25 rfl ?_
  by_cases c : a.length ≤ 1000
  case neg =>
    have d : (1000 : Int) < (a.length : Int) := by omega
    simp [d, show 1000 < a.length by omega]
    refine pcall_of awake25 rfl ?_
    simp [Tryd.results10]
  have d : ¬ (1000 : Int) < (a.length : Int) := by omega
  by_cases c2 : b.length ≤ 1000
  case neg =>
    have d2 : (1000 : Int) < (b.length : Int) := by omega
    simp [d, show ¬ 1000 < a.length by omega, d2, show 1000 < b.length by omega]
    refine pcall_of awake25 rfl ?_
    simp [Tryd.results10]
  have d2 : ¬ (1000 : Int) < (b.length : Int) := by omega
  simp [d, show ¬ 1000 < a.length by omega, d2, show ¬ 1000 < b.length by omega]
  have pa := parse26 [a] (by simp) (by simp [totB]; omega) (by simp; omega)
  have pb := parse26 [b] (by simp) (by simp [totB]; omega) (by simp; omega)
  have pc := parse26 [a, b] (by simp) (by simp [totB]; omega) (by simp; omega)
  have hpar := parse_two a b
  obtain ⟨x7, x4⟩ := parseB_len [a]
  obtain ⟨y7, y4⟩ := parseB_len [b]
  have xi := parse_ints [a]
  rw [hpar] at pc
  generalize parseB [a] = x at *
  generalize parseB [b] = y at *
  have xok := ints_ok x7 x4 xi
  have hpr := print33 x xok
  have hpl := printC_len xok
  have g1 := parse_great x7 x4
  have g2 := parse_round x7 x4
  rw [clamp_ints xi] at g1 g2
  clear hpar
  have pg := parse26 [upB (printC x)] (by simp) (by simp [totB, upB]; omega) (by simp [upB]; omega)
  have pr := parse26 [[32, 44, 32] ++ printC x ++ [44, 32, 44, 122, 122, 57]] (by simp) (by simp [totB]; omega) (by simp; omega)
  rw [g1] at pg
  rw [g2] at pr
  generalize printC x = s at *
  obtain ⟨b0, b1, b2, b3, b4, b5, b6, i0, i1, i2, i3, rfl⟩ := ctl_ex x7 x4
  obtain ⟨c0, c1, c2', c3, c4, c5, c6, j0, j1, j2, j3, rfl⟩ := ctl_ex y7 y4
  simp only [combC, List.zipWith_cons_cons, List.zipWith_nil_left, ctlL, List.map_cons, List.map_nil, List.cons_append, List.nil_append] at pa pb pc hpr pg pr
  clear g1 g2
  refine pcall_of pa rfl ?_
  simp
  refine pcall_of pb rfl ?_
  simp
  refine pcall_of pc rfl ?_
  simp
  have TBe : ∃ TB : Tb, TB = ⟨[(2, ⟨38, 11, [.p (.bool (b0 || c0)), .p (.bool (b1 || c1)), .p (.bool (b2 || c2')), .p (.bool (b3 || c3)), .p (.bool (b4 || c4)), .p (.bool (b5 || c5)), .p (.bool (b6 || c6)), .p (.int (firstI i0 j0)), .p (.int (firstI i1 j1)), .p (.int (firstI i2 j2)), .p (.int (firstI i3 j3))]⟩), (1, ⟨38, 11, [.p (.bool c0), .p (.bool c1), .p (.bool c2'), .p (.bool c3), .p (.bool c4), .p (.bool c5), .p (.bool c6), .p (.int j0), .p (.int j1), .p (.int j2), .p (.int j3)]⟩), (0, ⟨38, 11, [.p (.bool b0), .p (.bool b1), .p (.bool b2), .p (.bool b3), .p (.bool b4), .p (.bool b5), .p (.bool b6), .p (.int i0), .p (.int i1), .p (.int i2), .p (.int i3)]⟩)], [], 3⟩ := ⟨_, rfl⟩
  obtain ⟨TB, hTB⟩ := TBe
  refine regX_cuts [6, 6, 6, 6, 6, 6, 6] ?_
  refine rgDC_next (CutJ TB [(5, .obj 0 0), (6, .obj 1 0), (7, .obj 2 0), (8, .p (.fn (.func 35) [])), (40, .p (.bool (b0 || c0)))]) ?rest0 ?now0
  case now0 =>
    intro l1 hl1
    simp only [List.take_succ_cons, List.take_zero] at hl1
    subst hl1
    rw [hTB]
    cases b0 <;> simp [CutJ]
  rintro ⟨sl, tb⟩ ⟨htb, hsl⟩ l2 hl2 k2 hk2
  obtain rfl : 6 = k2 := hk2
  simp only [List.drop_succ_cons, List.drop_zero] at hl2
  subst hl2
  simp only at htb hsl
  rw [hTB] at htb
  subst htb
  simp only [List.forall_mem_cons, List.forall_mem_nil, and_true] at hsl
  obtain ⟨g5, g6, g7, g8, r0⟩ := hsl
  refine rgDC_next (CutJ TB [(5, .obj 0 0), (6, .obj 1 0), (7, .obj 2 0), (8, .p (.fn (.func 35) [])), (40, .p (.bool (b0 || c0))), (46, .p (.bool (b1 || c1)))]) ?rest1 ?now1
  case now1 =>
    intro l1 hl1
    simp only [List.take_succ_cons, List.take_zero] at hl1
    subst hl1
    rw [hTB]
    cases b1 <;> simp [CutJ, g5, g6, g7, g8, r0]
  clear r0 g8 g7 g6 g5 sl
  rintro ⟨sl, tb⟩ ⟨htb, hsl⟩ l2 hl2 k2 hk2
  obtain rfl : 12 = k2 := hk2
  simp only [List.drop_succ_cons, List.drop_zero] at hl2
  subst hl2
  simp only at htb hsl
  rw [hTB] at htb
  subst htb
  simp only [List.forall_mem_cons, List.forall_mem_nil, and_true] at hsl
  obtain ⟨g5, g6, g7, g8, r0, r1⟩ := hsl
  refine rgDC_next (CutJ TB [(5, .obj 0 0), (6, .obj 1 0), (7, .obj 2 0), (8, .p (.fn (.func 35) [])), (40, .p (.bool (b0 || c0))), (46, .p (.bool (b1 || c1))), (52, .p (.bool (b2 || c2')))]) ?rest2 ?now2
  case now2 =>
    intro l1 hl1
    simp only [List.take_succ_cons, List.take_zero] at hl1
    subst hl1
    rw [hTB]
    cases b2 <;> simp [CutJ, g5, g6, g7, g8, r0, r1]
  clear r1 r0 g8 g7 g6 g5 sl
  rintro ⟨sl, tb⟩ ⟨htb, hsl⟩ l2 hl2 k2 hk2
  obtain rfl : 18 = k2 := hk2
  simp only [List.drop_succ_cons, List.drop_zero] at hl2
  subst hl2
  simp only at htb hsl
  rw [hTB] at htb
  subst htb
  simp only [List.forall_mem_cons, List.forall_mem_nil, and_true] at hsl
  obtain ⟨g5, g6, g7, g8, r0, r1, r2⟩ := hsl
  refine rgDC_next (CutJ TB [(5, .obj 0 0), (6, .obj 1 0), (7, .obj 2 0), (8, .p (.fn (.func 35) [])), (40, .p (.bool (b0 || c0))), (46, .p (.bool (b1 || c1))), (52, .p (.bool (b2 || c2'))), (58, .p (.bool (b3 || c3)))]) ?rest3 ?now3
  case now3 =>
    intro l1 hl1
    simp only [List.take_succ_cons, List.take_zero] at hl1
    subst hl1
    rw [hTB]
    cases b3 <;> simp [CutJ, g5, g6, g7, g8, r0, r1, r2]
  clear r2 r1 r0 g8 g7 g6 g5 sl
  rintro ⟨sl, tb⟩ ⟨htb, hsl⟩ l2 hl2 k2 hk2
  obtain rfl : 24 = k2 := hk2
  simp only [List.drop_succ_cons, List.drop_zero] at hl2
  subst hl2
  simp only at htb hsl
  rw [hTB] at htb
  subst htb
  simp only [List.forall_mem_cons, List.forall_mem_nil, and_true] at hsl
  obtain ⟨g5, g6, g7, g8, r0, r1, r2, r3⟩ := hsl
  refine rgDC_next (CutJ TB [(5, .obj 0 0), (6, .obj 1 0), (7, .obj 2 0), (8, .p (.fn (.func 35) [])), (40, .p (.bool (b0 || c0))), (46, .p (.bool (b1 || c1))), (52, .p (.bool (b2 || c2'))), (58, .p (.bool (b3 || c3))), (64, .p (.bool (b4 || c4)))]) ?rest4 ?now4
  case now4 =>
    intro l1 hl1
    simp only [List.take_succ_cons, List.take_zero] at hl1
    subst hl1
    rw [hTB]
    cases b4 <;> simp [CutJ, g5, g6, g7, g8, r0, r1, r2, r3]
  clear r3 r2 r1 r0 g8 g7 g6 g5 sl
  rintro ⟨sl, tb⟩ ⟨htb, hsl⟩ l2 hl2 k2 hk2
  obtain rfl : 30 = k2 := hk2
  simp only [List.drop_succ_cons, List.drop_zero] at hl2
  subst hl2
  simp only at htb hsl
  rw [hTB] at htb
  subst htb
  simp only [List.forall_mem_cons, List.forall_mem_nil, and_true] at hsl
  obtain ⟨g5, g6, g7, g8, r0, r1, r2, r3, r4⟩ := hsl
  refine rgDC_next (CutJ TB [(5, .obj 0 0), (6, .obj 1 0), (7, .obj 2 0), (8, .p (.fn (.func 35) [])), (40, .p (.bool (b0 || c0))), (46, .p (.bool (b1 || c1))), (52, .p (.bool (b2 || c2'))), (58, .p (.bool (b3 || c3))), (64, .p (.bool (b4 || c4))), (70, .p (.bool (b5 || c5)))]) ?rest5 ?now5
  case now5 =>
    intro l1 hl1
    simp only [List.take_succ_cons, List.take_zero] at hl1
    subst hl1
    rw [hTB]
    cases b5 <;> simp [CutJ, g5, g6, g7, g8, r0, r1, r2, r3, r4]
  clear r4 r3 r2 r1 r0 g8 g7 g6 g5 sl
  rintro ⟨sl, tb⟩ ⟨htb, hsl⟩ l2 hl2 k2 hk2
  obtain rfl : 36 = k2 := hk2
  simp only [List.drop_succ_cons, List.drop_zero] at hl2
  subst hl2
  simp only at htb hsl
  rw [hTB] at htb
  subst htb
  simp only [List.forall_mem_cons, List.forall_mem_nil, and_true] at hsl
  obtain ⟨g5, g6, g7, g8, r0, r1, r2, r3, r4, r5⟩ := hsl
  refine rgDC_next (CutJ TB [(5, .obj 0 0), (6, .obj 1 0), (7, .obj 2 0), (8, .p (.fn (.func 35) [])), (40, .p (.bool (b0 || c0))), (46, .p (.bool (b1 || c1))), (52, .p (.bool (b2 || c2'))), (58, .p (.bool (b3 || c3))), (64, .p (.bool (b4 || c4))), (70, .p (.bool (b5 || c5))), (76, .p (.bool (b6 || c6)))]) ?rest6 ?now6
  case now6 =>
    intro l1 hl1
    simp only [List.take_succ_cons, List.take_zero] at hl1
    subst hl1
    rw [hTB]
    cases b6 <;> simp [CutJ, g5, g6, g7, g8, r0, r1, r2, r3, r4, r5]
  clear r5 r4 r3 r2 r1 r0 g8 g7 g6 g5 sl
  rintro ⟨sl, tb⟩ ⟨htb, hsl⟩ l2 hl2 k2 hk2
  obtain rfl : 42 = k2 := hk2
  simp only [List.drop_succ_cons, List.drop_zero] at hl2
  subst hl2
  simp only at htb hsl
  rw [hTB] at htb
  subst htb
  simp only [List.forall_mem_cons, List.forall_mem_nil, and_true] at hsl
  obtain ⟨g5, g6, g7, g8, r0, r1, r2, r3, r4, r5, r6⟩ := hsl
  refine rgDC_last _ (fun st' h' => h') ?_
  simp [g5, g6, g7, g8, r0, r1, r2, r3, r4, r5, r6]
  refine call_of (first35 i0 j0) ?_
  simp [g5, g6, g7, g8, r0, r1, r2, r3, r4, r5, r6]
  refine call_of (first35 i1 j1) ?_
  simp [g5, g6, g7, g8, r0, r1, r2, r3, r4, r5, r6]
  refine call_of (first35 i2 j2) ?_
  simp [g5, g6, g7, g8, r0, r1, r2, r3, r4, r5, r6]
  refine call_of (first35 i3 j3) ?_
  simp [g5, g6, g7, g8, r0, r1, r2, r3, r4, r5, r6]
  refine pcall_of hpr rfl ?_
  simp [g5, g7]
  refine ⟨by omega, ?_⟩
  refine aw_loop (fun k : Nat => k ≤ s.length) (fun k => [(5, .obj 0 0), (7, .obj 2 0), (9, .obj 3 0), (10, .view 4 0 s.length 1 none), (11, .p (.int k))])
    (fun k => ⟨[(4, rowByt (upM s k)), (3, ⟨38, 11, [.p (.bool (b0 || c0)), .p (.bool (b1 || c1)), .p (.bool (b2 || c2')), .p (.bool (b3 || c3)), .p (.bool (b4 || c4)), .p (.bool (b5 || c5)), .p (.bool (b6 || c6)), .p (.int (firstI i0 j0)), .p (.int (firstI i1 j1)), .p (.int (firstI i2 j2)), .p (.int (firstI i3 j3))]⟩), (2, ⟨38, 11, [.p (.bool (b0 || c0)), .p (.bool (b1 || c1)), .p (.bool (b2 || c2')), .p (.bool (b3 || c3)), .p (.bool (b4 || c4)), .p (.bool (b5 || c5)), .p (.bool (b6 || c6)), .p (.int (firstI i0 j0)), .p (.int (firstI i1 j1)), .p (.int (firstI i2 j2)), .p (.int (firstI i3 j3))]⟩), (0, ⟨38, 11, [.p (.bool b0), .p (.bool b1), .p (.bool b2), .p (.bool b3), .p (.bool b4), .p (.bool b5), .p (.bool b6), .p (.int i0), .p (.int i1), .p (.int i2), .p (.int i3)]⟩)], [], 5⟩) (fun k => s.length - k) 0 (by simp) _ (AS.le_refl _ _) (leN_id (by simp [upM, g5, g7])) ?_
  rintro k h1
  have hlen := upM_len s k
  by_cases ck : k < s.length
  · have hat := upM_at s k ck
    have hg : (upM s k)[k]'(by omega) = s[k] := by
      have := List.getElem?_eq_getElem (l := upM s k) (i := k) (by omega)
      rw [hat] at this; injection this with this; exact this.symm
    have hs := upM_set s k ck
    have hrow : ∀ v : UInt8, ((bytesPC (upM s k)).map AV.p).take k ++ AV.p (u8P v) :: ((bytesPC (upM s k)).map AV.p).drop (k + 1) = (bytesPC ((upM s k).set k v)).map AV.p := fun v => by
      rw [← List.map_take, ← List.map_drop]
      simp only [bytesPC, ← List.map_take, ← List.map_drop]
      rw [List.set_eq_take_append_cons_drop, if_pos (by omega)]
      simp
    have hsame : upO s[k] = s[k] → upM s (k + 1) = upM s k := fun e => by
      rw [← hs, e, ← hg]; exact List.set_getElem_self _
    by_cases a1 : 97 ≤ s[k].toNat
    · have b1 : (97 : Int) ≤ (s[k].toNat : Int) := by omega
      by_cases a2 : s[k].toNat ≤ 122
      · have b2 : (s[k].toNat : Int) ≤ 122 := by omega
        have w2 : IntKind.u8.wrap ((s[k].toNat : Int) - 32) = ((upO s[k]).toNat : Int) := by
          rw [wrapU8_id (by omega) (by omega), upO_nat _ a1 a2]
        simp [ck, hlen, hg, a1, b1, a2, b2, w2]
        refine ⟨by omega, k + 1, by omega, by omega, leN_id ?_⟩
        simp [wrap64_id (n := (k : Int) + 1) (by omega) (by omega)]
        rw [← hs]
        have hr := hrow (upO s[k])
        unfold u8P at hr
        rw [hr]
        exact List.prefix_refl _
      · have b2 : ¬ (s[k].toNat : Int) ≤ 122 := by omega
        have hl' : upO s[k] = s[k] := by unfold upO; rw [if_neg (by omega)]
        simp [ck, hlen, hg, a1, b1, a2, b2]
        refine ⟨k + 1, by omega, by omega, leN_id ?_⟩
        simp [wrap64_id (n := (k : Int) + 1) (by omega) (by omega), hsame hl']
    · have b1 : ¬ (97 : Int) ≤ (s[k].toNat : Int) := by omega
      have hl' : upO s[k] = s[k] := by unfold upO; rw [if_neg (by omega)]
      simp [ck, hlen, hg, a1, b1]
      refine ⟨k + 1, by omega, by omega, leN_id ?_⟩
      simp [wrap64_id (n := (k : Int) + 1) (by omega) (by omega), hsame hl']
  obtain rfl : k = s.length := by omega
  simp
  have hM : upM s s.length = upB s := by simp [upM, upB]
  refine cv_of (upB s) (by simp) (by simp) ?_ ?_
  · rw [hM]
    exact bor_byt (M := []) (by simp [upB]) (by simp [lk])
  simp
  refine call_of pg ?_
  simp
  refine call_of hpr ?_
  simp
  refine ⟨by omega, by omega, ?_⟩
  refine call_of pr ?_
  simp [Tryd.results10]
theorem law10n {x y : PC} (hx : strS x) (hy : strS y) : PureC Tryd.prog 10 [x, y] (.bool true) := by
  obtain ⟨a, rfl, h1⟩ := hx
  obtain ⟨b, rfl, h2⟩ := hy
  exact law10 a b h1 h2
end Go.Av
