/- control.Parse and the document's answer; ControlParses computes true; how values are read. -/
import Derived.Test.YtpffiikopcpgfaaDoorDj
set_option linter.all false
/-! part Q61 -/
namespace Go.Av
open Go.Proofs

/-- one directive more -/
def stepC (c : Ctl) (p : List UInt8) : Ctl :=
  let d := readB p
  if d.2.2.2 = false then c else
  match flagI d.1 with
  | some k => (c.1.set k true, c.2)
  | none => match cntI d.1 with
    | some k => if c.2.getD k 0 < 0 then (c.1, c.2.set k (numD d.2.1 d.2.2.1 (if d.1 = nm9 then 2147483647 else 0))) else c
    | none => c
def parseB (vs : List (List UInt8)) : Ctl := (splitB vs).foldl stepC ctl0
theorem flagI_lt {n : List UInt8} {k : Nat} (h : flagI n = some k) : k < 7 := by
  unfold flagI at h
  repeat' split at h
  all_goals simp at h
  all_goals omega
theorem cntI_lt {n : List UInt8} {k : Nat} (h : cntI n = some k) : k < 4 := by
  unfold cntI at h
  repeat' split at h
  all_goals simp at h
  all_goals omega
theorem readB_len (l : List UInt8) : (readB l).2.1.length ≤ l.length := by
  have hc := cutB_len l 61
  unfold readB
  simp only
  split
  · exact hc.2
  · split
    · exact hc.2
    · exact Nat.le_trans (unqB_len _) hc.2
theorem ctlL_set0 {c : Ctl} (h : c.1.length = 7) {k : Nat} (hk : k < 7) (b : Bool) : (ctlL c).set k (.bool b) = ctlL (c.1.set k b, c.2) := by
  simp only [ctlL]
  rw [List.set_append_left _ _ (by simp; omega)]
  simp [List.map_set]
theorem ctlL_set1 {c : Ctl} (h : c.1.length = 7) {k : Nat} (v : Int) : (ctlL c).set (7 + k) (.int v) = ctlL (c.1, c.2.set k v) := by
  simp only [ctlL]
  rw [List.set_append_right _ _ (by simp; omega)]
  simp [List.map_set, h]
theorem piece_len {vs : List (List UInt8)} (hl : ∀ v ∈ vs, v.length ≤ 1000000) : ∀ p ∈ splitB vs, p.length ≤ 1000000 := by
  have tl : ∀ l : List UInt8, (trimB l).length ≤ l.length := by
    intro l; exact Nat.le_trans (trimL_le _) (trimR_le _)
  have key : ∀ (n : Nat) (l : List UInt8), l.length ≤ n → ∀ p ∈ spl1 l, p.length ≤ l.length := by
    intro n
    induction n with
    | zero => intro l h p hp; obtain rfl : l = [] := List.length_eq_zero_iff.1 (by omega); simp [spl1_nil] at hp
    | succ n ih =>
      intro l h p hp
      by_cases e : l = []
      · subst e; simp [spl1_nil] at hp
      · rw [spl1_eq e] at hp
        rcases List.mem_append.1 hp with hp | hp
        · unfold pieceB at hp
          split at hp
          · simp at hp
          · simp at hp; subst hp; exact Nat.le_trans (tl _) (by rw [List.length_take]; omega)
        · have h0 : 0 < l.length := List.length_pos_iff.2 e
          exact Nat.le_trans (ih _ (by simp; omega) p hp) (by simp)
  intro p hp
  unfold splitB at hp
  obtain ⟨v, hv, hp⟩ := List.mem_flatMap.1 hp
  exact Nat.le_trans (key _ v (Nat.le_refl _) p hp) (hl v hv)
theorem flag_cnt {n : List UInt8} {k : Nat} (h : flagI n = some k) : cntI n = none := by
  unfold flagI at h
  repeat' split at h
  all_goals first | (rename_i h0; subst h0; rfl) | (simp at h)
theorem set_map {l : List PC} {j : Nat} (h : j < l.length) (v : PC) : (l.map AV.p).take j ++ AV.p v :: (l.map AV.p).drop (j + 1) = (l.set j v).map AV.p := by
  rw [List.map_set, List.set_eq_take_append_cons_drop, if_pos (by simpa using h)]
abbrev zc : List AV := [.p (.bool false), .p (.bool false), .p (.bool false), .p (.bool false), .p (.bool false), .p (.bool false), .p (.bool false), .p (.int 0), .p (.int 0), .p (.int 0), .p (.int 0)]
set_option maxHeartbeats 4000000 in
set_option maxRecDepth 100000 in
theorem parse26 (vs : List (List UInt8)) (hv : vs.length ≤ 1000000) (ht : totB vs ≤ 1000000) (hl : ∀ v ∈ vs, v.length ≤ 1000000) : PureC Tryd.prog 26 [.sl (vs.map PC.str)] (.agg false (ctlL (parseB vs))) := by
  refine pure_of_aw (ys := [_]) [] [] [] mixed Tryd.func26 rfl (by kernel_rfl) (by kernel_rfl) (by simp [Tryd.ntmps26]) rfl ?_
  have hR := splitB_len vs
  have hp := piece_len hl
  have hs := split63 vs hv ht hl
  unfold parseB
  generalize splitB vs = ps at *
  have hl0 : (ctlL ctl0).length = 11 := rfl
  simp
  refine pcall_of none28 rfl ?_
  simp [hl0]
  refine pcall_of hs (by simp) ?_
  simp
  obtain ⟨R, hRe⟩ : ∃ R, R = ps.foldl stepC ctl0 := ⟨_, rfl⟩
  rw [← hRe]
  refine aw_loop (fun y : Nat × Ctl => y.1 ≤ ps.length ∧ y.2.1.length = 7 ∧ y.2.2.length = 4 ∧ R = (ps.drop y.1).foldl stepC y.2) (fun y => [(0, .p (.sl (vs.map PC.str))), (2, .obj 0 0), (3, .obj 1 0), (13, .p (.sl (ps.map PC.str))), (14, .p (.int ps.length)), (15, .p (.int y.1))])
    (fun y => ⟨[(1, ⟨38, 11, (ctlL y.2).map AV.p⟩), (0, ⟨38, 11, zc⟩)], [], 2⟩) (fun y => ps.length - y.1) (0, ctl0) ⟨by simp, rfl, rfl, by simpa using hRe⟩ _ (AS.le_refl _ _) (leN_id (by simp)) ?_
  rintro ⟨k, c⟩ ⟨h1, h7, h4, h2⟩
  simp only at h1 h7 h4 h2
  have hcl : (ctlL c).length = 11 := by simp [ctlL, h7, h4]
  by_cases ck : k < ps.length
  case neg =>
    obtain rfl : k = ps.length := by omega
    rw [List.drop_length] at h2
    simp at h2
    subst h2
    have ht : ((ctlL R).map AV.p).take 11 = (ctlL R).map AV.p := List.take_of_length_le (by simp [hcl])
    have hg : toG (PC.agg false (ctlL R)) (pcG false (some (ctlL R))) := by simp [pcG, toG]
    simp [Tryd.results26, hcl, ht, hg]
  rw [List.drop_eq_getElem_cons ck, List.foldl_cons] at h2
  have hpl := hp ps[k] (List.getElem_mem ck)
  simp [ck]
  generalize ps[k] = p at *
  have hrd := read64 p hpl
  have har := readB_len p
  unfold stepC at h2
  generalize readB p = d at *
  obtain ⟨n, a, has, ok⟩ := d
  simp only at hrd har h2
  refine pcall_of hrd (by simp) ?_
  cases ok with
  | false =>
    simp
    simp only [if_true] at h2
    refine ⟨k + 1, c.1, c.2, ⟨by omega, h7, h4, h2⟩, by omega, leN_id ?_⟩
    simp [wrap64_id (n := (k : Int) + 1) (by omega) (by omega)]
  | true =>
  simp only [Bool.true_eq_false, if_false] at h2
  simp
  refine gcall_of0 (flag65 1 3 (by omega) n (ctlL c)) (by simp) (by simp [sub1]) trivial rfl ?_
  obtain ⟨x, hx⟩ : ∃ x, x = flagI n := ⟨_, rfl⟩
  rw [← hx] at h2 ⊢
  cases x with
  | some j =>
    have hj := flagI_lt hx.symm
    simp only at h2
    have e1 := set_map (l := ctlL c) (j := j) (by omega) (PC.sc (Value.bool true))
    rw [show (ctlL c).set j (PC.sc (Value.bool true)) = ctlL (c.1.set j true, c.2) from ctlL_set0 h7 hj true] at e1
    simp [ptrO, hcl, e1]
    refine ⟨by omega, ?_⟩
    refine gcall_of0 (count66 1 3 (by omega) n (ctlL (c.1.set j true, c.2))) (by simp) (by simp [sub1]) trivial rfl ?_
    rw [flag_cnt hx.symm]
    simp [ptrO]
    refine ⟨k + 1, c.1.set j true, c.2, ⟨by omega, by simpa using h7, h4, h2⟩, by omega, leN_id ?_⟩
    simp [wrap64_id (n := (k : Int) + 1) (by omega) (by omega)]
  | none =>
  simp only at h2
  simp [ptrO, hcl]
  refine gcall_of0 (count66 1 3 (by omega) n (ctlL c)) (by simp) (by simp [sub1]) trivial rfl ?_
  obtain ⟨y, hy⟩ : ∃ y, y = cntI n := ⟨_, rfl⟩
  rw [← hy] at h2 ⊢
  cases y with
  | none =>
    simp only at h2
    simp [ptrO, hcl]
    refine ⟨k + 1, c.1, c.2, ⟨by omega, h7, h4, h2⟩, by omega, leN_id ?_⟩
    simp [wrap64_id (n := (k : Int) + 1) (by omega) (by omega)]
  | some j =>
    have hj := cntI_lt hy.symm
    simp only at h2
    have hj4 : j < c.2.length := by omega
    have e0 : (ctlL c)[7 + j]? = some (PC.int c.2[j]) := by
      simp only [ctlL]
      rw [List.getElem?_append_right (by simp; omega)]
      simp [h7, hj4]
    have e2 : c.2.getD j 0 = c.2[j] := by simp [List.getD, hj4]
    rw [e2] at h2
    by_cases cn : c.2[j] < 0
    case neg =>
      rw [if_neg cn] at h2
      have d : decide (c.2[j] < 0) = false := by simpa using cn
      simp [ptrO, hcl, e0, cn]
      refine ⟨k + 1, c.1, c.2, ⟨by omega, h7, h4, h2⟩, by omega, leN_id ?_⟩
      simp [wrap64_id (n := (k : Int) + 1) (by omega) (by omega)]
    rw [if_pos cn] at h2
    simp [ptrO, hcl, e0, cn]
    by_cases c9 : n = nm9
    · rw [if_pos c9] at h2
      have d9 : (n == [109, 97, 120, 45, 115, 116, 97, 108, 101]) = true := by rw [c9]; rfl
      simp [d9]
      refine pcall_of (number67 n a has 2147483647 (by omega)) (by simp) ?_
      generalize numD a has 2147483647 = v at *
      have e1 := set_map (l := ctlL c) (j := 7 + j) (by omega) (PC.int v)
      rw [ctlL_set1 h7 v] at e1
      simp [hcl, e1]
      refine ⟨by omega, ?_⟩
      refine ⟨k + 1, c.1, c.2.set j v, ⟨by omega, h7, by simpa using h4, h2⟩, by omega, leN_id ?_⟩
      simp [wrap64_id (n := (k : Int) + 1) (by omega) (by omega)]
    · rw [if_neg c9] at h2
      have d9 : (n == [109, 97, 120, 45, 115, 116, 97, 108, 101]) = false := by rw [beq_eq_false_iff_ne]; exact c9
      simp [d9]
      refine pcall_of (number67 n a has 0 (by omega)) (by simp) ?_
      generalize numD a has 0 = v at *
      have e1 := set_map (l := ctlL c) (j := 7 + j) (by omega) (PC.int v)
      rw [ctlL_set1 h7 v] at e1
      simp [hcl, e1]
      refine ⟨by omega, ?_⟩
      refine ⟨k + 1, c.1, c.2.set j v, ⟨by omega, h7, by simpa using h4, h2⟩, by omega, leN_id ?_⟩
      simp [wrap64_id (n := (k : Int) + 1) (by omega) (by omega)]
end Go.Av

/-! part Q62 -/
namespace Go.Av
open Go.RowKit Go.Proofs

/-- pure_of_aw with orders (and cuts) -/
theorem pure_of_awT {P : Program} {f : FuncId} {fn : Func} {c : Code} {xs ys : List PC} {r : PC} (md : List Nat) (cls : List (Nat × List (Nat × Cls))) (lab : List (Nat × Nat)) (ot : List (Nat × OT)) (hm : P.follows .mixedOrders = true) (hf : P.funcs[f]? = some fn) (hb : fn.body = some c)
    (hnm : (fn.name == "runtime.NumGoroutine") = false) (hk : codeOk cls ot fn.ntmps c = true) (hx : xs.length ≤ fn.ntmps) (hr : r = packR ys) (h : aw P ⟨md, cls, lab, 0, ot⟩ c (initS (xs.map .p) ⟨[], [], 0⟩) (QRet P fn (RPure ys))) : PureC P f xs r := by
  refine ⟨⟨fn, hf, hnm, by rw [hb]; rfl⟩, fun M w vs hH hvs => ?_⟩
  have hw : SatW w M (fun _ => False) ⟨[], [], 0⟩ ⟨M, fun _ => none, fun _ => none⟩ w := by
    refine ⟨hH, Keep.refl _ _, fun _ _ _ => rfl, Mem.le_refl _, ?_, ?_, ?_, ?_, ?_, ?_⟩
    · intro i o e; simp [lk] at e
    · intro i el sz e; simp [lk] at e
    · intro i j o p b c b' c' e; simp [lk] at e
    · intro i j o p u v b e; simp [lk] at e
    · intro i j o p b c v e; simp [lk] at e
    · intro i _; exact ⟨rfl, rfl⟩
  have := run_of_aw (cx := ⟨md, cls, lab, 0, ot⟩) (g := ⟨M, fun _ => none, fun _ => none⟩) (F := fun _ => False) hm hf hb hk (by simpa using hx) rfl h hw (reps_p hvs)
  refine this.mono ?_
  rintro e w' ⟨us, zs, g', tb', rfl, hle, hS, hR, hz⟩
  have hreps := toAll_p hR hz
  refine ⟨_, g'.M, rfl, by rw [hr]; exact packR_rep hreps, hS.holds, hle.M, fun b hb => hS.old b hb (fun h => h), ?_⟩
  exact ⟨hS.keep.os, hS.keep.tape, hS.keep.output, hS.keep.size, fun k hk => hS.keep.block k hk (fun h => h)⟩

def stepN (n : List UInt8) (v : Int) (c : Ctl) : Ctl :=
  match flagI n with
  | some k => (c.1.set k true, c.2)
  | none => match cntI n with
    | some k => if c.2.getD k 0 < 0 then (c.1, c.2.set k v) else c
    | none => c
set_option maxHeartbeats 1000000 in
theorem stepN_eq (n : List UInt8) (v : Int) (b0 b1 b2 b3 b4 b5 b6 : Bool) (i0 i1 i2 i3 : Int) : stepN n v ([b0, b1, b2, b3, b4, b5, b6], [i0, i1, i2, i3]) =
    ([b0 || n == nm0, b1 || n == nm1, b2 || n == nm2, b3 || n == nm3, b4 || n == nm4, b5 || n == nm5, b6 || n == nm6], [if n = nm7 ∧ i0 < 0 then v else i0, if n = nm8 ∧ i1 < 0 then v else i1, if n = nm9 ∧ i2 < 0 then v else i2, if n = nm10 ∧ i3 < 0 then v else i3]) := by
  have e : ∀ m : List UInt8, n ≠ m → (n == m) = false := fun m hm => by simpa using hm
  by_cases h0 : n = nm0
  · subst h0
    simp [stepN, flagI, cntI, nm0, nm1, nm2, nm3, nm4, nm5, nm6, nm7, nm8, nm9, nm10]
  by_cases h1 : n = nm1
  · subst h1
    simp [stepN, flagI, cntI, nm0, nm1, nm2, nm3, nm4, nm5, nm6, nm7, nm8, nm9, nm10]
  by_cases h2 : n = nm2
  · subst h2
    simp [stepN, flagI, cntI, nm0, nm1, nm2, nm3, nm4, nm5, nm6, nm7, nm8, nm9, nm10]
  by_cases h3 : n = nm3
  · subst h3
    simp [stepN, flagI, cntI, nm0, nm1, nm2, nm3, nm4, nm5, nm6, nm7, nm8, nm9, nm10]
  by_cases h4 : n = nm4
  · subst h4
    simp [stepN, flagI, cntI, nm0, nm1, nm2, nm3, nm4, nm5, nm6, nm7, nm8, nm9, nm10]
  by_cases h5 : n = nm5
  · subst h5
    simp [stepN, flagI, cntI, nm0, nm1, nm2, nm3, nm4, nm5, nm6, nm7, nm8, nm9, nm10]
  by_cases h6 : n = nm6
  · subst h6
    simp [stepN, flagI, cntI, nm0, nm1, nm2, nm3, nm4, nm5, nm6, nm7, nm8, nm9, nm10]
  by_cases h7 : n = nm7
  · subst h7
    by_cases hi : i0 < 0 <;> simp [stepN, flagI, cntI, hi, nm0, nm1, nm2, nm3, nm4, nm5, nm6, nm7, nm8, nm9, nm10]
  by_cases h8 : n = nm8
  · subst h8
    by_cases hi : i1 < 0 <;> simp [stepN, flagI, cntI, hi, nm0, nm1, nm2, nm3, nm4, nm5, nm6, nm7, nm8, nm9, nm10]
  by_cases h9 : n = nm9
  · subst h9
    by_cases hi : i2 < 0 <;> simp [stepN, flagI, cntI, hi, nm0, nm1, nm2, nm3, nm4, nm5, nm6, nm7, nm8, nm9, nm10]
  by_cases h10 : n = nm10
  · subst h10
    by_cases hi : i3 < 0 <;> simp [stepN, flagI, cntI, hi, nm0, nm1, nm2, nm3, nm4, nm5, nm6, nm7, nm8, nm9, nm10]
  simp [stepN, flagI, cntI, h0, e _ h0, h1, e _ h1, h2, e _ h2, h3, e _ h3, h4, e _ h4, h5, e _ h5, h6, e _ h6, h7, e _ h7, h8, e _ h8, h9, e _ h9, h10, e _ h10]
theorem stepC_eq (c : Ctl) (p : List UInt8) : stepC c p = if (readB p).2.2.2 = false then c else stepN (readB p).1 (numD (readB p).2.1 (readB p).2.2.1 (if (readB p).1 = nm9 then 2147483647 else 0)) c := rfl
/-- what is known between two flags -/
def CutR (vs ps : List (List UInt8)) (k : Nat) (n : List UInt8) (v : Int) (cs : List PC) (st : AS) : Prop :=
  st.sl 0 = .p (.sl (vs.map PC.str)) ∧ st.sl 2 = .obj 0 0 ∧ st.sl 3 = .obj 1 0 ∧ st.sl 4 = .p (.sl (ps.map PC.str)) ∧ st.sl 5 = .p (.int k) ∧ st.sl 6 = .p (.str n) ∧ st.sl 7 = .p (.int v) ∧ st.tb = ⟨[(1, ⟨38, 11, cs.map AV.p⟩), (0, ⟨38, 11, zc⟩)], [], 2⟩
set_option maxHeartbeats 4000000 in
set_option maxRecDepth 100000 in
theorem rparse27 (vs : List (List UInt8)) (hv : vs.length ≤ 1000000) (ht : totB vs ≤ 1000000) (hl : ∀ v ∈ vs, v.length ≤ 1000000) : PureC Tryd.prog 27 [.sl (vs.map PC.str)] (.agg false (ctlL (parseB vs))) := by
  refine pure_of_awT (ys := [_]) [] [] [] [(8, .lf), (9, .lf), (10, .lf), (11, .lf), (12, .lf), (13, .lf), (14, .lf)] mixed Tryd.func27 rfl (by kernel_rfl) (by kernel_rfl) (by simp [Tryd.ntmps27]) rfl ?_
  have hR := splitB_len vs
  have hp := piece_len hl
  have hs := rsplit49 vs hv ht hl
  unfold parseB
  generalize splitB vs = ps at *
  have hl0 : (ctlL ctl0).length = 11 := rfl
  simp
  refine pcall_of hs (by simp) ?_
  simp
  obtain ⟨R, hRe⟩ : ∃ R, R = ps.foldl stepC ctl0 := ⟨_, rfl⟩
  rw [← hRe]
  refine aw_loop (fun y : Nat × Ctl => y.1 ≤ ps.length ∧ y.2.1.length = 7 ∧ y.2.2.length = 4 ∧ R = (ps.drop y.1).foldl stepC y.2) (fun y => [(0, .p (.sl (vs.map PC.str))), (2, .obj 0 0), (3, .obj 1 0), (4, .p (.sl (ps.map PC.str))), (5, .p (.int y.1))])
    (fun y => ⟨[(1, ⟨38, 11, (ctlL y.2).map AV.p⟩), (0, ⟨38, 11, zc⟩)], [], 2⟩) (fun y => ps.length - y.1) (0, ctl0) ⟨by simp, rfl, rfl, by simpa using hRe⟩ _ (AS.le_refl _ _) (leN_id (by simp [ctl0, ctlL])) ?_
  rintro ⟨k, c⟩ ⟨h1, h7, h4, h2⟩
  simp only at h1 h7 h4 h2
  have hcl : (ctlL c).length = 11 := by simp [ctlL, h7, h4]
  by_cases ck : k < ps.length
  case neg =>
    obtain rfl : k = ps.length := by omega
    rw [List.drop_length] at h2
    simp at h2
    subst h2
    have ht : ((ctlL R).map AV.p).take 11 = (ctlL R).map AV.p := List.take_of_length_le (by simp [hcl])
    have hg : toG (PC.agg false (ctlL R)) (pcG false (some (ctlL R))) := by simp [pcG, toG]
    simp [Tryd.results27, hcl, ht, hg]
  rw [List.drop_eq_getElem_cons ck, List.foldl_cons] at h2
  have hpl := hp ps[k] (List.getElem_mem ck)
  simp [ck]
  generalize ps[k] = p at *
  have hrd := rdirective68 p hpl
  generalize hsc : stepC c p = c' at h2
  rw [stepC_eq] at hsc
  unfold rdirB at hrd
  generalize readB p = d at *
  obtain ⟨n, a, has, ok⟩ := d
  simp only at hrd hsc
  refine pcall_of hrd (by simp) ?_
  cases ok with
  | false =>
    simp
    simp only [if_true] at hsc
    subst hsc
    refine ⟨k + 1, c.1, c.2, ⟨by omega, h7, h4, h2⟩, by omega, leN_id ?_⟩
    simp [wrap64_id (n := (k : Int) + 1) (by omega) (by omega)]
  | true =>
  simp only [Bool.true_eq_false, if_false] at hsc
  simp
  generalize numD a has (if n = nm9 then 2147483647 else 0) = v at *
  obtain ⟨bs, is⟩ := c
  simp only at h7 h4
  match bs, h7 with
  | [b0, b1, b2, b3, b4, b5, b6], _ =>
  match is, h4 with
  | [i0, i1, i2, i3], _ =>
  rw [stepN_eq] at hsc
  have hce : (ctlL ([b0, b1, b2, b3, b4, b5, b6], [i0, i1, i2, i3])).map AV.p = [.p (.bool b0), .p (.bool b1), .p (.bool b2), .p (.bool b3), .p (.bool b4), .p (.bool b5), .p (.bool b6), .p (.int i0), .p (.int i1), .p (.int i2), .p (.int i3)] := rfl
  simp [hce]
  refine regF_cut (CutR vs ps k n v [.bool (b0 || n == nm0), .bool b1, .bool b2, .bool b3, .bool b4, .bool b5, .bool b6, .int i0, .int i1, .int i2, .int i3]) ?rest0 ?now0
  case now0 => cases b0 <;> simp [CutR, nm0]
  rintro ⟨sl, tb⟩ ⟨g0, g2, g3, g4, g5, g6, g7, g8⟩
  simp only at g0 g2 g3 g4 g5 g6 g7 g8
  subst g8
  simp [g0, g2, g3, g4, g5, g6, g7]
  refine regF_cut (CutR vs ps k n v [.bool (b0 || n == nm0), .bool (b1 || n == nm1), .bool b2, .bool b3, .bool b4, .bool b5, .bool b6, .int i0, .int i1, .int i2, .int i3]) ?rest1 ?now1
  case now1 => cases b1 <;> simp [CutR, nm1, g0, g2, g3, g4, g5, g6, g7]
  clear g0 g2 g3 g4 g5 g6 g7 sl
  rintro ⟨sl, tb⟩ ⟨g0, g2, g3, g4, g5, g6, g7, g8⟩
  simp only at g0 g2 g3 g4 g5 g6 g7 g8
  subst g8
  simp [g0, g2, g3, g4, g5, g6, g7]
  refine regF_cut (CutR vs ps k n v [.bool (b0 || n == nm0), .bool (b1 || n == nm1), .bool (b2 || n == nm2), .bool b3, .bool b4, .bool b5, .bool b6, .int i0, .int i1, .int i2, .int i3]) ?rest2 ?now2
  case now2 => cases b2 <;> simp [CutR, nm2, g0, g2, g3, g4, g5, g6, g7]
  clear g0 g2 g3 g4 g5 g6 g7 sl
  rintro ⟨sl, tb⟩ ⟨g0, g2, g3, g4, g5, g6, g7, g8⟩
  simp only at g0 g2 g3 g4 g5 g6 g7 g8
  subst g8
  simp [g0, g2, g3, g4, g5, g6, g7]
  refine regF_cut (CutR vs ps k n v [.bool (b0 || n == nm0), .bool (b1 || n == nm1), .bool (b2 || n == nm2), .bool (b3 || n == nm3), .bool b4, .bool b5, .bool b6, .int i0, .int i1, .int i2, .int i3]) ?rest3 ?now3
  case now3 => cases b3 <;> simp [CutR, nm3, g0, g2, g3, g4, g5, g6, g7]
  clear g0 g2 g3 g4 g5 g6 g7 sl
  rintro ⟨sl, tb⟩ ⟨g0, g2, g3, g4, g5, g6, g7, g8⟩
  simp only at g0 g2 g3 g4 g5 g6 g7 g8
  subst g8
  simp [g0, g2, g3, g4, g5, g6, g7]
  refine regF_cut (CutR vs ps k n v [.bool (b0 || n == nm0), .bool (b1 || n == nm1), .bool (b2 || n == nm2), .bool (b3 || n == nm3), .bool (b4 || n == nm4), .bool b5, .bool b6, .int i0, .int i1, .int i2, .int i3]) ?rest4 ?now4
  case now4 => cases b4 <;> simp [CutR, nm4, g0, g2, g3, g4, g5, g6, g7]
  clear g0 g2 g3 g4 g5 g6 g7 sl
  rintro ⟨sl, tb⟩ ⟨g0, g2, g3, g4, g5, g6, g7, g8⟩
  simp only at g0 g2 g3 g4 g5 g6 g7 g8
  subst g8
  simp [g0, g2, g3, g4, g5, g6, g7]
  refine regF_cut (CutR vs ps k n v [.bool (b0 || n == nm0), .bool (b1 || n == nm1), .bool (b2 || n == nm2), .bool (b3 || n == nm3), .bool (b4 || n == nm4), .bool (b5 || n == nm5), .bool b6, .int i0, .int i1, .int i2, .int i3]) ?rest5 ?now5
  case now5 => cases b5 <;> simp [CutR, nm5, g0, g2, g3, g4, g5, g6, g7]
  clear g0 g2 g3 g4 g5 g6 g7 sl
  rintro ⟨sl, tb⟩ ⟨g0, g2, g3, g4, g5, g6, g7, g8⟩
  simp only at g0 g2 g3 g4 g5 g6 g7 g8
  subst g8
  simp [g0, g2, g3, g4, g5, g6, g7]
  refine regF_cut (CutR vs ps k n v [.bool (b0 || n == nm0), .bool (b1 || n == nm1), .bool (b2 || n == nm2), .bool (b3 || n == nm3), .bool (b4 || n == nm4), .bool (b5 || n == nm5), .bool (b6 || n == nm6), .int i0, .int i1, .int i2, .int i3]) ?rest6 ?now6
  case now6 => cases b6 <;> simp [CutR, nm6, g0, g2, g3, g4, g5, g6, g7]
  clear g0 g2 g3 g4 g5 g6 g7 sl
  rintro ⟨sl, tb⟩ ⟨g0, g2, g3, g4, g5, g6, g7, g8⟩
  simp only at g0 g2 g3 g4 g5 g6 g7 g8
  subst g8
  simp [g0, g2, g3, g4, g5, g6, g7]
  generalize (b0 || n == nm0) = x0 at *
  generalize (b1 || n == nm1) = x1 at *
  generalize (b2 || n == nm2) = x2 at *
  generalize (b3 || n == nm3) = x3 at *
  generalize (b4 || n == nm4) = x4 at *
  generalize (b5 || n == nm5) = x5 at *
  generalize (b6 || n == nm6) = x6 at *
  clear hcl hce
  by_cases h7 : n = nm7
  · have z : (n == [109, 97, 120, 45, 97, 103, 101]) = true ∧ (n == [115, 45, 109, 97, 120, 97, 103, 101]) = false ∧ (n == [109, 97, 120, 45, 115, 116, 97, 108, 101]) = false ∧ (n == [109, 105, 110, 45, 102, 114, 101, 115, 104]) = false := by rw [h7]; exact ⟨rfl, rfl, rfl, rfl⟩
    obtain ⟨z0, z1, z2, z3⟩ := z
    have y : n = nm7 ∧ n ≠ nm8 ∧ n ≠ nm9 ∧ n ≠ nm10 := by rw [h7]; decide
    obtain ⟨y0, y1, y2, y3⟩ := y
    by_cases c : i0 < 0
    · simp only [y0, y1, y2, y3, c, true_and, false_and, if_true, if_false, ne_eq] at hsc
      subst hsc
      simp [z0, z1, z2, z3, g0, g2, g3, g4, g5, g6, g7, c]
      refine ⟨k + 1, [x0, x1, x2, x3, x4, x5, x6], [v, i1, i2, i3], ⟨by omega, rfl, rfl, h2⟩, by omega, leN_id ?_⟩
      simp [ctlL, wrap64_id (n := (k : Int) + 1) (by omega) (by omega), g0, g2, g3, g4, g5, g6, g7]
    · simp only [y0, y1, y2, y3, c, true_and, false_and, if_true, if_false, ne_eq] at hsc
      subst hsc
      simp [z0, z1, z2, z3, g0, g2, g3, g4, g5, g6, g7, c]
      refine ⟨k + 1, [x0, x1, x2, x3, x4, x5, x6], [i0, i1, i2, i3], ⟨by omega, rfl, rfl, h2⟩, by omega, leN_id ?_⟩
      simp [ctlL, wrap64_id (n := (k : Int) + 1) (by omega) (by omega), g0, g2, g3, g4, g5, g6, g7]
  by_cases h8 : n = nm8
  · have z : (n == [109, 97, 120, 45, 97, 103, 101]) = false ∧ (n == [115, 45, 109, 97, 120, 97, 103, 101]) = true ∧ (n == [109, 97, 120, 45, 115, 116, 97, 108, 101]) = false ∧ (n == [109, 105, 110, 45, 102, 114, 101, 115, 104]) = false := by rw [h8]; exact ⟨rfl, rfl, rfl, rfl⟩
    obtain ⟨z0, z1, z2, z3⟩ := z
    have y : n ≠ nm7 ∧ n = nm8 ∧ n ≠ nm9 ∧ n ≠ nm10 := by rw [h8]; decide
    obtain ⟨y0, y1, y2, y3⟩ := y
    by_cases c : i1 < 0
    · simp only [y0, y1, y2, y3, c, true_and, false_and, if_true, if_false, ne_eq] at hsc
      subst hsc
      simp [z0, z1, z2, z3, g0, g2, g3, g4, g5, g6, g7, c]
      refine ⟨k + 1, [x0, x1, x2, x3, x4, x5, x6], [i0, v, i2, i3], ⟨by omega, rfl, rfl, h2⟩, by omega, leN_id ?_⟩
      simp [ctlL, wrap64_id (n := (k : Int) + 1) (by omega) (by omega), g0, g2, g3, g4, g5, g6, g7]
    · simp only [y0, y1, y2, y3, c, true_and, false_and, if_true, if_false, ne_eq] at hsc
      subst hsc
      simp [z0, z1, z2, z3, g0, g2, g3, g4, g5, g6, g7, c]
      refine ⟨k + 1, [x0, x1, x2, x3, x4, x5, x6], [i0, i1, i2, i3], ⟨by omega, rfl, rfl, h2⟩, by omega, leN_id ?_⟩
      simp [ctlL, wrap64_id (n := (k : Int) + 1) (by omega) (by omega), g0, g2, g3, g4, g5, g6, g7]
  by_cases h9 : n = nm9
  · have z : (n == [109, 97, 120, 45, 97, 103, 101]) = false ∧ (n == [115, 45, 109, 97, 120, 97, 103, 101]) = false ∧ (n == [109, 97, 120, 45, 115, 116, 97, 108, 101]) = true ∧ (n == [109, 105, 110, 45, 102, 114, 101, 115, 104]) = false := by rw [h9]; exact ⟨rfl, rfl, rfl, rfl⟩
    obtain ⟨z0, z1, z2, z3⟩ := z
    have y : n ≠ nm7 ∧ n ≠ nm8 ∧ n = nm9 ∧ n ≠ nm10 := by rw [h9]; decide
    obtain ⟨y0, y1, y2, y3⟩ := y
    by_cases c : i2 < 0
    · simp only [y0, y1, y2, y3, c, true_and, false_and, if_true, if_false, ne_eq] at hsc
      subst hsc
      simp [z0, z1, z2, z3, g0, g2, g3, g4, g5, g6, g7, c]
      refine ⟨k + 1, [x0, x1, x2, x3, x4, x5, x6], [i0, i1, v, i3], ⟨by omega, rfl, rfl, h2⟩, by omega, leN_id ?_⟩
      simp [ctlL, wrap64_id (n := (k : Int) + 1) (by omega) (by omega), g0, g2, g3, g4, g5, g6, g7]
    · simp only [y0, y1, y2, y3, c, true_and, false_and, if_true, if_false, ne_eq] at hsc
      subst hsc
      simp [z0, z1, z2, z3, g0, g2, g3, g4, g5, g6, g7, c]
      refine ⟨k + 1, [x0, x1, x2, x3, x4, x5, x6], [i0, i1, i2, i3], ⟨by omega, rfl, rfl, h2⟩, by omega, leN_id ?_⟩
      simp [ctlL, wrap64_id (n := (k : Int) + 1) (by omega) (by omega), g0, g2, g3, g4, g5, g6, g7]
  by_cases h10 : n = nm10
  · have z : (n == [109, 97, 120, 45, 97, 103, 101]) = false ∧ (n == [115, 45, 109, 97, 120, 97, 103, 101]) = false ∧ (n == [109, 97, 120, 45, 115, 116, 97, 108, 101]) = false ∧ (n == [109, 105, 110, 45, 102, 114, 101, 115, 104]) = true := by rw [h10]; exact ⟨rfl, rfl, rfl, rfl⟩
    obtain ⟨z0, z1, z2, z3⟩ := z
    have y : n ≠ nm7 ∧ n ≠ nm8 ∧ n ≠ nm9 ∧ n = nm10 := by rw [h10]; decide
    obtain ⟨y0, y1, y2, y3⟩ := y
    by_cases c : i3 < 0
    · simp only [y0, y1, y2, y3, c, true_and, false_and, if_true, if_false, ne_eq] at hsc
      subst hsc
      simp [z0, z1, z2, z3, g0, g2, g3, g4, g5, g6, g7, c]
      refine ⟨k + 1, [x0, x1, x2, x3, x4, x5, x6], [i0, i1, i2, v], ⟨by omega, rfl, rfl, h2⟩, by omega, leN_id ?_⟩
      simp [ctlL, wrap64_id (n := (k : Int) + 1) (by omega) (by omega), g0, g2, g3, g4, g5, g6, g7]
    · simp only [y0, y1, y2, y3, c, true_and, false_and, if_true, if_false, ne_eq] at hsc
      subst hsc
      simp [z0, z1, z2, z3, g0, g2, g3, g4, g5, g6, g7, c]
      refine ⟨k + 1, [x0, x1, x2, x3, x4, x5, x6], [i0, i1, i2, i3], ⟨by omega, rfl, rfl, h2⟩, by omega, leN_id ?_⟩
      simp [ctlL, wrap64_id (n := (k : Int) + 1) (by omega) (by omega), g0, g2, g3, g4, g5, g6, g7]
  have e : ∀ m : List UInt8, n ≠ m → (n == m) = false := fun m hm => by simpa using hm
  have z0 := e _ h7
  have z1 := e _ h8
  have z2 := e _ h9
  have z3 := e _ h10
  unfold nm7 at z0
  unfold nm8 at z1
  unfold nm9 at z2
  unfold nm10 at z3
  simp only [h7, h8, h9, h10, false_and, if_false] at hsc
  subst hsc
  simp [z0, z1, z2, z3, g0, g2, g3, g4, g5, g6, g7]
  refine ⟨k + 1, [x0, x1, x2, x3, x4, x5, x6], [i0, i1, i2, i3], ⟨by omega, rfl, rfl, h2⟩, by omega, leN_id ?_⟩
  simp [ctlL, wrap64_id (n := (k : Int) + 1) (by omega) (by omega), g0, g2, g3, g4, g5, g6, g7]
end Go.Av

/-! part Q63 -/
namespace Go.Av
open Go.Proofs

def awA : List UInt8 := [77, 97, 120, 45, 65, 103, 101, 61, 34, 54, 48, 34, 44, 32, 120, 61, 121, 44, 32, 110, 111, 45, 115, 116, 111, 114, 101]
def awB : List UInt8 := [109, 97, 120, 45, 97, 103, 101, 61, 53]
theorem aw_parse : parseB [awA, awB] = ([true, false, false, false, false, false, false], [60, -1, -1, -1]) := by kernel_rfl
set_option maxHeartbeats 1000000 in
theorem awake25 : PureC Tryd.prog 25 [] (.bool true) := by
  have hA := parse26 [awA, awB] (by simp) (by decide) (by decide)
  rw [aw_parse] at hA
  simp only [ctlL, List.map_cons, List.map_nil, List.cons_append, List.nil_append] at hA
  refine pure_of_aw (ys := [_]) [] [] [] mixed Tryd.func25 rfl (by kernel_rfl) (by kernel_rfl) (by simp [Tryd.ntmps25]) rfl ?_
  simp
  refine pcall_of hA rfl ?_
  simp [Tryd.results25]
theorem stepC_len {c : Ctl} (h7 : c.1.length = 7) (h4 : c.2.length = 4) (p : List UInt8) : (stepC c p).1.length = 7 ∧ (stepC c p).2.length = 4 := by
  unfold stepC
  simp only
  split
  · exact ⟨h7, h4⟩
  · split
    · exact ⟨by simpa using h7, h4⟩
    · split
      · split
        · exact ⟨h7, by simpa using h4⟩
        · exact ⟨h7, h4⟩
      · exact ⟨h7, h4⟩
theorem foldC_len (l : List (List UInt8)) : ∀ (c : Ctl), c.1.length = 7 → c.2.length = 4 → (l.foldl stepC c).1.length = 7 ∧ (l.foldl stepC c).2.length = 4 := by
  induction l with
  | nil => intro c h7 h4; exact ⟨h7, h4⟩
  | cons p l ih => intro c h7 h4; have := stepC_len h7 h4 p; exact ih _ this.1 this.2
theorem parseB_len (vs : List (List UInt8)) : (parseB vs).1.length = 7 ∧ (parseB vs).2.length = 4 := foldC_len _ _ rfl rfl
theorem ctl_ex {c : Ctl} (h7 : c.1.length = 7) (h4 : c.2.length = 4) : ∃ b0 b1 b2 b3 b4 b5 b6 i0 i1 i2 i3, c = ([b0, b1, b2, b3, b4, b5, b6], [i0, i1, i2, i3]) := by
  obtain ⟨bs, is⟩ := c
  simp only at h7 h4
  match bs, h7 with
  | [b0, b1, b2, b3, b4, b5, b6], _ =>
  match is, h4 with
  | [i0, i1, i2, i3], _ => exact ⟨_, _, _, _, _, _, _, _, _, _, _, rfl⟩
theorem parse_nil : parseB [] = ctl0 := rfl
set_option maxHeartbeats 2000000 in
set_option maxRecDepth 100000 in
theorem law6 (vs : List (List UInt8)) (hv : vs.length ≤ 9223372036854775807) : PureC Tryd.prog 6 [.sl (vs.map PC.str)] (.bool true) := by
  refine pure_of_aw (ys := [_]) [] [] [] mixed Tryd.func6 rfl (by kernel_rfl) (by kernel_rfl) (by simp [Tryd.ntmps6]) rfl ?_
  simp
  refine pcall_of awake25 rfl ?_
  by_cases c : vs.length ≤ 20
  case neg =>
    have d : (20 : Int) < (vs.length : Int) := by omega
    simp [d, show 20 < vs.length by omega]
    refine pcall_of awake25 rfl ?_
    simp [Tryd.results6]
  have d : ¬ (20 : Int) < (vs.length : Int) := by omega
  simp [d, show ¬ 20 < vs.length by omega]
  refine aw_loop0 (fun k : Nat => k ≤ vs.length ∧ ∀ v ∈ vs.take k, v.length ≤ 1000) (fun k => [(0, .p (.sl (vs.map PC.str))), (3, .p (.int k))]) (fun k => vs.length - k) 0 (by simp) (leN_id (by simp)) ?_
  rintro k ⟨h1, h2⟩
  by_cases ck : k < vs.length
  · by_cases cl : vs[k].length ≤ 1000
    · have d2 : ¬ (1000 : Int) < (vs[k].length : Int) := by omega
      simp [ck, d2, show ¬ 1000 < vs[k].length by omega]
      refine ⟨k + 1, ⟨by omega, ?_⟩, by omega, leN_id ?_⟩
      · intro x hx
        rw [List.take_succ_eq_append_getElem ck] at hx
        rcases List.mem_append.1 hx with hx | hx
        · exact h2 x hx
        · simp at hx; subst hx; exact cl
      · simp [wrap64_id (n := (k : Int) + 1) (by omega) (by omega)]
    · have d2 : (1000 : Int) < (vs[k].length : Int) := by omega
      simp [ck, d2, show 1000 < vs[k].length by omega, Tryd.results6]
  obtain rfl : k = vs.length := by omega
  rw [List.take_length] at h2
  have htot : totB vs ≤ 20000 := by
    have : ∀ l : List (List UInt8), (∀ v ∈ l, v.length ≤ 1000) → totB l ≤ l.length * 1000 := by
      intro l; induction l with
      | nil => intro _; simp [totB]
      | cons a l ih => intro h; rw [totB_cons, List.length_cons]; have := ih fun v hv => h v (by simp [hv]); have := h a (by simp); omega
    have := this vs h2
    omega
  have hA := parse26 vs (by omega) (by omega) (fun v hv => by have := h2 v hv; omega)
  have hB := rparse27 vs (by omega) (by omega) (fun v hv => by have := h2 v hv; omega)
  have hC := rparse27 [] (by simp) (by decide) (by simp)
  rw [parse_nil] at hC
  simp
  refine pcall_of hA (by simp) ?_
  simp
  refine pcall_of hB (by simp) ?_
  obtain ⟨b0, b1, b2, b3, b4, b5, b6, i0, i1, i2, i3, hR⟩ := ctl_ex (parseB_len vs).1 (parseB_len vs).2
  rw [hR]
  simp [ctlL]
  refine pcall_of none28 rfl ?_
  simp
  refine pcall_of hC rfl ?_
  simp [ctlL, ctl0, Tryd.results6]
end Go.Av

/-! part Q64 -/
namespace Go.Av
open Go.Proofs

theorem strs_of_l {xs : List PC} (h : ∀ x ∈ xs, ∃ s : List UInt8, x = .str s ∧ s.length ≤ maxLen) : ∃ ks : List (List UInt8), xs = ks.map PC.str := by
  induction xs with
  | nil => exact ⟨[], rfl⟩
  | cons x xs ih =>
    obtain ⟨ks, rfl⟩ := ih fun y hy => h y (by simp [hy])
    obtain ⟨s, rfl, _⟩ := h x (by simp)
    exact ⟨s :: ks, rfl⟩
def strsS (x : PC) : Prop := ∃ vs : List (List UInt8), x = .sl (vs.map PC.str) ∧ vs.length ≤ 9223372036854775807
theorem rd36 : RdV Tryd.prog 36 strsS :=
  rv_one (by rw [Tryd.underlying36]; simp) (by rw [Tryd.underlying36]; simp) ((rd_slice Tryd.underlying36 (by rw [cellsT9]; omega) (rd_string Tryd.underlying9)).mono fun x ⟨xs, h, hl, hv⟩ => by
    obtain ⟨ks, rfl⟩ := strs_of_l hv; exact ⟨ks, h, by simp [maxLen] at hl; omega⟩) (by rintro x ⟨s, rfl, _⟩ b xs h; cases h)
theorem law6n {x : PC} (hx : strsS x) : PureC Tryd.prog 6 [x] (.bool true) := by
  obtain ⟨vs, rfl, h⟩ := hx
  exact law6 vs h
end Go.Av
