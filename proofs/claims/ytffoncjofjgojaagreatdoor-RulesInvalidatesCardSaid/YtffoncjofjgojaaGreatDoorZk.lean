/- What a message says and has, what may be kept, what holds no more at the document's example. -/
import Derived.Test.YtffoncjofjgojaaGreatDoorZj
set_option linter.all false
/-! part Z117 -/
namespace Go.Av
open Go.Proofs
set_option maxRecDepth 100000
def ixfB {α : Type} (p : α → Bool) : List α → Int
  | [] => -1
  | a :: l => if p a = true then 0 else if ixfB p l < 0 then -1 else ixfB p l + 1
theorem ixf_any {α : Type} (p : α → Bool) (l : List α) : decide (0 ≤ ixfB p l) = l.any p := by
  induction l with
  | nil => rfl
  | cons a l ih =>
    simp only [ixfB, List.any_cons, ← ih]
    by_cases hp : p a = true
    · simp [hp]
    · by_cases h : ixfB p l < 0
      · have h2 : ¬ 0 ≤ ixfB p l := by omega
        simp [hp, h, h2]
      · have h2 : 0 ≤ ixfB p l := by omega
        have h3 : 0 ≤ ixfB p l + 1 := by omega
        simp [hp, h, h2, h3]
theorem ixf_from {α : Type} (p : α → Bool) (l : List α) (i : Nat) (h : ∀ x ∈ l.take i, p x = false) (hi : i ≤ l.length) : ixfB p l = if ixfB p (l.drop i) < 0 then -1 else ixfB p (l.drop i) + i := by
  induction l generalizing i with
  | nil => simp [ixfB]
  | cons a l ih =>
    cases i with
    | zero =>
      have : -1 ≤ ixfB p (a :: l) := by
        clear ih h hi
        generalize a :: l = m
        induction m with
        | nil => simp [ixfB]
        | cons a m ih => simp only [ixfB]; split <;> (try split) <;> omega
      simp only [List.drop_zero]
      split <;> omega
    | succ i =>
      have h0 : p a = false := h a (by simp)
      have := ih i (fun x hx => h x (by simp [hx])) (by simp at hi; omega)
      simp only [List.drop_succ_cons, ixfB, h0, Bool.false_eq_true, if_false]
      rw [this]
      split
      · simp
      · rw [if_neg (by omega)]; omega
theorem ixf101 (g : FuncId) (caps : List PC) (p : List UInt8 → Bool) (l : List (List UInt8)) (hl : l.length ≤ 1000000) (hg : ∀ x ∈ l, PureC Tryz.prog g (.str x :: caps) (.bool (p x))) : PureC Tryz.prog 101 [.sl (l.map PC.str), .fn (.func g) caps] (.int (ixfB p l)) := by
  refine pure_of_aw (ys := [_]) [] [] [] mixed Tryz.func101 rfl (by kernel_rfl) (by kernel_rfl) (by simp [Tryz.ntmps101]) rfl ?_
  obtain ⟨R, hR⟩ : ∃ R, R = ixfB p l := ⟨_, rfl⟩
  rw [← hR]
  simp
  refine aw_loop0 (fun i : Nat => i ≤ l.length ∧ ∀ x ∈ l.take i, p x = false) (fun i => [(0, .p (.sl (l.map PC.str))), (1, .p (.fn (.func g) caps)), (7, .p (.int l.length)), (8, .p (.int i))]) (fun i => l.length - i) 0 ⟨by simp, by simp⟩ (leN_id (by simp)) ?_
  rintro i ⟨g1, g2⟩
  have hf := ixf_from p l i g2 g1
  rw [← hR] at hf
  by_cases ci : i < l.length
  · have wi : IntKind.i64.wrap ((i : Int) + 1) = ((i + 1 : Nat) : Int) := by rw [wrap64_id (by omega) (by omega)]; rfl
    rw [List.drop_eq_getElem_cons ci] at hf
    simp only [ixfB] at hf
    simp [ci]
    refine pcall_of (hg l[i] (List.getElem_mem ci)) (by simp) ?_
    cases hp : p l[i] with
    | true =>
      simp [hp] at hf
      simp [hf, Tryz.results101]
    | false =>
      simp [wi]
      refine ⟨i + 1, ⟨by omega, fun x hx => ?_⟩, by omega, leN_id (by simp)⟩
      rw [List.take_succ_eq_append_getElem ci, List.mem_append] at hx
      rcases hx with hx | hx
      · exact g2 x hx
      · simp at hx; rw [hx]; exact hp
  · rw [List.drop_eq_nil_of_le (by omega)] at hf
    simp [ixfB] at hf
    simp [ci, hf, Tryz.results101]
theorem anyf65 (g : FuncId) (caps : List PC) (p : List UInt8 → Bool) (l : List (List UInt8)) (hl : l.length ≤ 1000000) (hg : ∀ x ∈ l, PureC Tryz.prog g (.str x :: caps) (.bool (p x))) : PureC Tryz.prog 65 [.sl (l.map PC.str), .fn (.func g) caps] (.bool (l.any p)) := by
  refine pure_of_aw (ys := [_]) [] [] [] mixed Tryz.func65 rfl (by kernel_rfl) (by kernel_rfl) (by simp [Tryz.ntmps65]) rfl ?_
  rw [← ixf_any]
  simp
  refine pcall_of (ixf101 g caps p l hl hg) (by simp) ?_
  simp [Tryz.results65]
structure Sd where
  x : Msg
  c : Ctl
@[reducible] def sdL (r : Sd) : List PC := msgL r.x ++ ctlL r.c
def hasN (fs : List Fd) (n : List UInt8) : Bool := !decide (getB fs n = [])
theorem sd_flat (r : Sd) (h7 : r.c.1.length = 7) (h4 : r.c.2.length = 4) : ∃ b0 b1 b2 b3 b4 b5 b6 i0 i1 i2 i3, r.c = ([b0, b1, b2, b3, b4, b5, b6], [i0, i1, i2, i3]) := ctl_ex h7 h4
theorem has93 (r : Sd) (h7 : r.c.1.length = 7) (h4 : r.c.2.length = 4) (n : List UInt8) (hf : FdOk r.x.fs) (hn : n.length ≤ 1000000) : PureC Tryz.prog 93 [.str n, .ref (.agg false (sdL r))] (.bool (hasN r.x.fs n)) := by
  obtain ⟨b0, b1, b2, b3, b4, b5, b6, i0, i1, i2, i3, hc⟩ := sd_flat r h7 h4
  refine pure_of_aw (ys := [_]) [] [] [] mixed Tryz.func93 rfl (by kernel_rfl) (by kernel_rfl) (by simp [Tryz.ntmps93]) rfl ?_
  simp [hc, ctlL]
  refine pcall_of (get107 r.x.fs n hf hn) (by simp) ?_
  unfold hasN
  have hl := getB_len r.x.fs n
  generalize getB r.x.fs n = L at *
  cases L with
  | nil => simp [Tryz.results93]
  | cons a L =>
    have d : (0 : Int) < (L.length : Int) + 1 := by omega
    simp [d, Tryz.results93]
theorem has58 (r : Sd) (h7 : r.c.1.length = 7) (h4 : r.c.2.length = 4) (ns : List (List UInt8)) (hf : FdOk r.x.fs) (hl : ns.length ≤ 1000000) (hn : ∀ n ∈ ns, n.length ≤ 1000000) : PureC Tryz.prog 58 [.agg false (sdL r), .sl (ns.map PC.str)] (.bool (ns.any (hasN r.x.fs))) := by
  have hg : ∀ x ∈ ns, PureC Tryz.prog 93 (.str x :: [.ref (.agg false (sdL r))]) (.bool (hasN r.x.fs x)) := fun x hx => has93 r h7 h4 x hf (hn x hx)
  have h := anyf65 93 [.ref (.agg false (sdL r))] (hasN r.x.fs) ns hl hg
  refine pure_of_aw (ys := [_]) [] [] [] mixed Tryz.func58 rfl (by kernel_rfl) (by kernel_rfl) (by simp [Tryz.ntmps58]) rfl ?_
  simp
  refine pcall_of h (by simp) ?_
  simp [Tryz.results58]
theorem said54 (x : Msg) (hf : FdOk x.fs) : PureC Tryz.prog 54 [.agg false (msgL x)] (.agg false (sdL ⟨x, saysB x.fs⟩)) := by
  obtain ⟨b0, b1, b2, b3, b4, b5, b6, i0, i1, i2, i3, hc⟩ : ∃ b0 b1 b2 b3 b4 b5 b6 i0 i1 i2 i3, saysB x.fs = ([b0, b1, b2, b3, b4, b5, b6], [i0, i1, i2, i3]) := by
    obtain ⟨h7, h4⟩ := parseB_len (getB x.fs ccN)
    exact ctl_ex h7 h4
  have hp := says_ctl x.fs hf
  rw [hc] at hp
  simp only [ctlL, List.map_cons, List.map_nil, List.cons_append, List.nil_append] at hp
  refine pure_of_aw (ys := [_]) [] [(1, [(6, .s 1 [])])] [(1, 0)] mixed Tryz.func54 rfl (by kernel_rfl) (by kernel_rfl) (by simp [Tryz.ntmps54]) rfl ?_
  simp [hc, ctlL]
  refine call_of (get107 x.fs ccN hf (by decide)) ?_
  simp
  refine call_of hp ?_
  simp [Tryz.results54]
end Go.Av

/-! part Z118 -/
namespace Go.Av
open Go.Proofs
set_option maxRecDepth 100000
def praN : List UInt8 := [112, 114, 97, 103, 109, 97]
def nocN : List UInt8 := [110, 111, 45, 99, 97, 99, 104, 101]
def ncP (s : List UInt8) : Bool := decide (lowB s = nocN)
def askB (fs : List Fd) : Ctl := if (!hasN fs ccN && (splitB (getB fs praN)).any ncP) = true then ((saysB fs).1.set 1 true, (saysB fs).2) else saysB fs
theorem nocache66 (s : List UInt8) (hs : s.length ≤ 1000000) : PureC Tryz.prog 66 [.str s] (.bool (ncP s)) := by
  refine pure_of_aw (ys := [_]) [] [] [] mixed Tryz.func66 rfl (by kernel_rfl) (by kernel_rfl) (by simp [Tryz.ntmps66]) rfl ?_
  simp
  refine pcall_of (lower76 s (by omega)) (by simp) ?_
  unfold ncP nocN
  by_cases h : lowB s = [110, 111, 45, 99, 97, 99, 104, 101] <;> simp [h, Tryz.results66]
theorem split_get (fs : List Fd) (n : List UInt8) (hf : FdOk fs) : PureC Tryz.prog 64 [.sl ((getB fs n).map PC.str)] (.sl ((splitB (getB fs n)).map PC.str)) := by
  have hl := getB_len fs n
  have ht := getB_tot fs n
  have h1 := hf.1
  have h2 := hf.2.1
  exact split63 _ (by omega) (by omega) (fun v hv => Nat.le_trans (totB_mem hv) (by omega))
theorem piece_get (fs : List Fd) (n : List UInt8) (hf : FdOk fs) : ∀ x ∈ splitB (getB fs n), x.length ≤ 1000000 := by
  have ht := getB_tot fs n
  have h2 := hf.2.1
  exact piece_len (fun v hv => Nat.le_trans (totB_mem hv) (by omega))
theorem split_cnt (fs : List Fd) (n : List UInt8) (hf : FdOk fs) : (splitB (getB fs n)).length ≤ 1000000 := by
  have h := splitB_len (getB fs n)
  have hl := getB_len fs n
  have ht := getB_tot fs n
  have h1 := hf.1
  have h2 := hf.2.1
  omega
theorem says_flat (fs : List Fd) : ∃ b0 b1 b2 b3 b4 b5 b6 i0 i1 i2 i3, saysB fs = ([b0, b1, b2, b3, b4, b5, b6], [i0, i1, i2, i3]) := by
  obtain ⟨h7, h4⟩ := parseB_len (getB fs ccN)
  exact ctl_ex h7 h4
theorem Ask25 (x : Msg) (hf : FdOk x.fs) : PureC Tryz.prog 25 [.agg false (msgL x)] (.agg false (ctlL (askB x.fs))) := by
  have hs := said54 x hf
  obtain ⟨h7, h4⟩ := parseB_len (getB x.fs ccN)
  have hh := has58 ⟨x, saysB x.fs⟩ h7 h4 [ccN] hf (by decide) (by decide)
  have ha := anyf65 66 [] ncP (splitB (getB x.fs praN)) (split_cnt x.fs praN hf) (fun s hs => nocache66 s (piece_get x.fs praN hf s hs))
  obtain ⟨b0, b1, b2, b3, b4, b5, b6, i0, i1, i2, i3, hc⟩ := says_flat x.fs
  unfold askB
  generalize (splitB (getB x.fs praN)).any ncP = B at *
  refine pure_of_aw (ys := [_]) [] [] [] mixed Tryz.func25 rfl (by kernel_rfl) (by kernel_rfl) (by simp [Tryz.ntmps25]) rfl ?_
  simp [hc, ctlL] at hs hh ⊢
  refine pcall_of hs (by simp) ?_
  simp
  refine pcall_of (get107 x.fs praN hf (by decide)) (by simp [praN]) ?_
  simp
  refine pcall_of (split_get x.fs praN hf) (by simp) ?_
  simp
  refine pcall_of hh (by simp [ccN]) ?_
  cases hasN x.fs ccN with
  | true => simp [Tryz.results25]
  | false =>
    simp
    refine pcall_of ha (by simp) ?_
    cases B with
    | false => simp [Tryz.results25]
    | true => simp [Tryz.results25]
def rngN : List UInt8 := [114, 97, 110, 103, 101]
def autN : List UInt8 := [97, 117, 116, 104, 111, 114, 105, 122, 97, 116, 105, 111, 110]
def varyH : List UInt8 := [118, 97, 114, 121]
def getM : List UInt8 := [71, 69, 84]
def bN (c : Ctl) (k : Nat) : Bool := c.1.getD k false
/-- may a response be kept, D what is read of a date -/
def storB (D : List UInt8 → Int × Int) (q r : Msg) : Bool :=
  if q.m ≠ getM ∨ hasN q.fs rngN = true then false else
  if r.st < 200 ∨ r.st = 206 ∨ r.st = 304 then false else
  if bN (askB q.fs) 0 = true ∨ bN (saysB r.fs) 0 = true ∨ bN (saysB r.fs) 3 = true ∨ (varyN (getB r.fs varyH)).isSome = false then false else
  if hasN q.fs autN = true ∧ bN (saysB r.fs) 2 = false ∧ bN (saysB r.fs) 4 = false ∧ (saysB r.fs).2.getD 1 0 < 0 then false else
  (lifeB D (ofB r 0 0)).2 || bN (saysB r.fs) 2 || decide (r.st ∈ heurL)
theorem names_get (fs : List Fd) (n : List UInt8) (hf : FdOk fs) : PureC Tryz.prog 55 [.sl ((getB fs n).map PC.str)] (.tp [.sl (((varyN (getB fs n)).getD []).map PC.str), .bool (varyN (getB fs n)).isSome]) := by
  have hl := getB_len fs n
  have ht := getB_tot fs n
  have h1 := hf.1
  have h2 := hf.2.1
  exact names40 _ (by omega) (by omega) (fun v hv => Nat.le_trans (totB_mem hv) (by omega))
theorem ask_flat (fs : List Fd) : ∃ b0 b1 b2 b3 b4 b5 b6 i0 i1 i2 i3, askB fs = ([b0, b1, b2, b3, b4, b5, b6], [i0, i1, i2, i3]) := by
  obtain ⟨b0, b1, b2, b3, b4, b5, b6, i0, i1, i2, i3, hc⟩ := says_flat fs
  unfold askB
  split
  · exact ⟨b0, true, b2, b3, b4, b5, b6, i0, i1, i2, i3, by rw [hc]; rfl⟩
  · exact ⟨_, _, _, _, _, _, _, _, _, _, _, hc⟩
set_option maxHeartbeats 2000000 in
theorem Storable23 (D : List UInt8 → Int × Int) (hDb : DB D) (q r : Msg) (hq : FdOk q.fs) (hr : FdOk r.fs) (hD : DFs D r.fs) : PureC Tryz.prog 23 [.agg false (msgL q), .agg false (msgL r)] (.bool (storB D q r)) := by
  have hs1 := said54 q hq
  have hs2 := said54 r hr
  obtain ⟨h7, h4⟩ := parseB_len (getB q.fs ccN)
  have hh1 := has58 ⟨q, saysB q.fs⟩ h7 h4 [rngN] hq (by decide) (by decide)
  have hh2 := has58 ⟨q, saysB q.fs⟩ h7 h4 [autN] hq (by decide) (by decide)
  have hv := names_get r.fs varyH hr
  have hlf := Lifetime57 D hDb r 0 0 hr hD
  have hk := Ask25 q hq
  have hu := heur59 r.st
  obtain ⟨b0, b1, b2, b3, b4, b5, b6, i0, i1, i2, i3, hc⟩ := says_flat q.fs
  obtain ⟨a0, a1, a2, a3, a4, a5, a6, j0, j1, j2, j3, hc2⟩ := says_flat r.fs
  obtain ⟨k0, k1, k2, k3, k4, k5, k6, l0, l1, l2, l3, hc3⟩ := ask_flat q.fs
  obtain ⟨R, hR⟩ : ∃ R, R = storB D q r := ⟨_, rfl⟩
  rw [← hR]
  unfold storB at hR
  simp only [hc2, hc3, bN] at hR
  simp only [List.any_cons, List.any_nil, Bool.or_false] at hh1 hh2
  rw [hc] at hs1 hh1 hh2
  rw [hc2] at hs2
  rw [hc3] at hk
  generalize hasN q.fs rngN = B1 at *
  generalize hasN q.fs autN = B2 at *
  generalize lifeB D (ofB r 0 0) = L at *
  generalize (varyN (getB r.fs varyH)).isSome = V at *
  generalize ((varyN (getB r.fs varyH)).getD []).map PC.str = VL at *
  generalize decide (r.st ∈ heurL) = H at *
  obtain ⟨L1, L2⟩ := L
  simp only [ctlL, List.map_cons, List.map_nil, List.cons_append, List.nil_append, sdL, msgL] at hs1 hs2 hh1 hh2 hk
  simp only [List.getD_cons_zero, List.getD_cons_succ] at hR
  refine pure_of_awT (ys := [_]) [] [] [] [(1, (.one 0 (.one 1 (.one 2 (.one 3 (.br 4 (.br 5 (.br 6 (.br 7 .lf .lf) .lf) .lf) (.br 5 (.br 4 (.br 6 (.br 7 .lf .lf) .lf) .lf) .lf)))))))] mixed Tryz.func23 rfl (by kernel_rfl) (by kernel_rfl) (by simp [Tryz.ntmps23]) rfl ?_
  simp
  refine call_of hs1 ?_
  simp
  refine call_of hs2 ?_
  simp
  simp only [getM] at hR
  refine ⟨?_, ?_⟩
  all_goals
    refine pcall_of (get107 r.fs varyH hr (by decide)) (by simp [varyH]) ?_
    simp
    refine pcall_of hv (by simp) ?_
    simp
    refine pcall_of hlf (by simp) ?_
    simp
    by_cases c1 : q.m = [71, 69, 84]
    case neg =>
      have d1 : (q.m != [71, 69, 84]) = true := by simpa using c1
      simp [c1] at hR
      simp [d1, c1, hR, Tryz.results23]
    have d1 : (q.m != [71, 69, 84]) = false := by simpa using c1
    simp [d1]
    refine pcall_of hh1 (by simp [rngN]) ?_
    cases B1 with
    | true =>
      simp at hR
      simp [hR, Tryz.results23]
    | false =>
    simp [c1] at hR
    simp
    by_cases s1 : r.st < 200
    · simp [s1] at hR
      simp [s1, hR, Tryz.results23]
    by_cases s2 : r.st = 206
    · simp [s2] at hR
      simp [s2, hR, Tryz.results23]
    by_cases s3 : r.st = 304
    · simp [s3] at hR
      simp [s3, hR, Tryz.results23]
    have e2 : (r.st == 206) = false := by simpa using s2
    have e3 : (r.st == 304) = false := by simpa using s3
    simp [s1, s2, s3] at hR
    simp [s1, s2, s3, e2, e3]
    refine pcall_of hk (by simp) ?_
    cases k0 with
    | true => simp at hR; simp [hR, Tryz.results23]
    | false =>
    cases a0 with
    | true => simp at hR; simp [hR, Tryz.results23]
    | false =>
    cases a3 with
    | true => simp at hR; simp [hR, Tryz.results23]
    | false =>
    cases V with
    | false => simp at hR; simp [hR, Tryz.results23]
    | true =>
    simp at hR
    simp
    refine pcall_of hh2 (by simp [autN]) ?_
    by_cases sj : j1 < 0
    all_goals
      cases B2 <;> cases a2 <;> cases a4 <;> cases L2
      all_goals
        simp [sj] at hR
        first
          | (simp [sj, hR, Tryz.results23]; done)
          | (simp [sj]; refine pcall_of hu (by simp) ?_; simp [hR, Tryz.results23]; done)
end Go.Av

/-! part Z119 -/
namespace Go.Av
open Go.Proofs
set_option maxRecDepth 100000
def eqP (v x : List UInt8) : Bool := decide (x = v)
theorem index102 (l : List (List UInt8)) (v : List UInt8) (hl : l.length ≤ 1000000) : PureC Tryz.prog 102 [.sl (l.map PC.str), .str v] (.int (ixfB (eqP v) l)) := by
  refine pure_of_aw (ys := [_]) [] [] [] mixed Tryz.func102 rfl (by kernel_rfl) (by kernel_rfl) (by simp [Tryz.ntmps102]) rfl ?_
  obtain ⟨R, hR⟩ : ∃ R, R = ixfB (eqP v) l := ⟨_, rfl⟩
  rw [← hR]
  simp
  refine aw_loop0 (fun i : Nat => i ≤ l.length ∧ ∀ x ∈ l.take i, eqP v x = false) (fun i => [(0, .p (.sl (l.map PC.str))), (1, .p (.str v)), (7, .p (.int l.length)), (8, .p (.int i))]) (fun i => l.length - i) 0 ⟨by simp, by simp⟩ (leN_id (by simp)) ?_
  rintro i ⟨g1, g2⟩
  have hf := ixf_from (eqP v) l i g2 g1
  rw [← hR] at hf
  by_cases ci : i < l.length
  · have wi : IntKind.i64.wrap ((i : Int) + 1) = ((i + 1 : Nat) : Int) := by rw [wrap64_id (by omega) (by omega)]; rfl
    rw [List.drop_eq_getElem_cons ci] at hf
    simp only [ixfB] at hf
    by_cases hp : l[i] = v
    · have hp' : eqP v l[i] = true := by simpa [eqP] using hp
      simp [hp'] at hf
      simp [ci, hp, hf, Tryz.results102]
    · have hp' : eqP v l[i] = false := by simpa [eqP] using hp
      have hq : (v == l[i]) = false := by simpa using fun e => hp e.symm
      simp [ci, hp, hq, wi]
      refine ⟨i + 1, ⟨by omega, fun x hx => ?_⟩, by omega, leN_id (by simp)⟩
      rw [List.take_succ_eq_append_getElem ci, List.mem_append] at hx
      rcases hx with hx | hx
      · exact g2 x hx
      · simp at hx; rw [hx]; exact hp'
  · rw [List.drop_eq_nil_of_le (by omega)] at hf
    simp [ixfB] at hf
    simp [ci, hf, Tryz.results102]
theorem contains69 (l : List (List UInt8)) (v : List UInt8) (hl : l.length ≤ 1000000) : PureC Tryz.prog 69 [.sl (l.map PC.str), .str v] (.bool (l.any (eqP v))) := by
  refine pure_of_aw (ys := [_]) [] [] [] mixed Tryz.func69 rfl (by kernel_rfl) (by kernel_rfl) (by simp [Tryz.ntmps69]) rfl ?_
  rw [← ixf_any]
  simp
  refine pcall_of (index102 l v hl) (by simp) ?_
  simp [Tryz.results69]
structure Uri where
  h : List UInt8
  p : Int
  t : List UInt8
deriving DecidableEq
@[reducible] def urP (u : Uri) : PC := .agg false [.str u.h, .int u.p, .str u.t]
def eqU (v x : Uri) : Bool := decide (x = v)
theorem eqU_bits (v x : Uri) : (v.h == x.h && (v.p == x.p && v.t == x.t)) = eqU v x := by
  obtain ⟨a, b, c⟩ := v
  obtain ⟨d, e, f⟩ := x
  by_cases h1 : a = d <;> by_cases h2 : b = e <;> by_cases h3 : c = f <;> simp [eqU, h1, h2, h3, Ne.symm] <;> simp_all [eq_comm]
theorem index111 (l : List Uri) (v : Uri) (hl : l.length ≤ 1000000) : PureC Tryz.prog 111 [.sl (l.map urP), urP v] (.int (ixfB (eqU v) l)) := by
  refine pure_of_aw (ys := [_]) [] [] [] mixed Tryz.func111 rfl (by kernel_rfl) (by kernel_rfl) (by simp [Tryz.ntmps111]) rfl ?_
  obtain ⟨R, hR⟩ : ∃ R, R = ixfB (eqU v) l := ⟨_, rfl⟩
  rw [← hR]
  simp
  refine aw_loop0 (fun i : Nat => i ≤ l.length ∧ ∀ x ∈ l.take i, eqU v x = false) (fun i => [(0, .p (.sl (l.map urP))), (3, .p (.ref (urP v))), (7, .p (.int l.length)), (8, .p (.int i))]) (fun i => l.length - i) 0 ⟨by simp, by simp⟩ (leN_id (by simp)) ?_
  rintro i ⟨g1, g2⟩
  have hf := ixf_from (eqU v) l i g2 g1
  rw [← hR] at hf
  by_cases ci : i < l.length
  · have wi : IntKind.i64.wrap ((i : Int) + 1) = ((i + 1 : Nat) : Int) := by rw [wrap64_id (by omega) (by omega)]; rfl
    rw [List.drop_eq_getElem_cons ci] at hf
    simp only [ixfB] at hf
    simp [ci, eqU_bits]
    cases hp : eqU v l[i] with
    | true =>
      simp [hp] at hf
      simp [hf, Tryz.results111]
    | false =>
      simp [wi]
      refine ⟨i + 1, ⟨by omega, fun x hx => ?_⟩, by omega, leN_id (by simp)⟩
      rw [List.take_succ_eq_append_getElem ci, List.mem_append] at hx
      rcases hx with hx | hx
      · exact g2 x hx
      · simp at hx; rw [hx]; exact hp
  · rw [List.drop_eq_nil_of_le (by omega)] at hf
    simp [ixfB] at hf
    simp [ci, hf, Tryz.results111]
theorem contains72 (l : List Uri) (v : Uri) (hl : l.length ≤ 1000000) : PureC Tryz.prog 72 [.sl (l.map urP), urP v] (.bool (l.any (eqU v))) := by
  refine pure_of_aw (ys := [_]) [] [] [] mixed Tryz.func72 rfl (by kernel_rfl) (by kernel_rfl) (by simp [Tryz.ntmps72]) rfl ?_
  rw [← ixf_any]
  simp
  refine pcall_of (index111 l v hl) (by simp) ?_
  simp [Tryz.results72]
def locN : List UInt8 := [108, 111, 99, 97, 116, 105, 111, 110]
def conN : List UInt8 := [99, 111, 110, 116, 101, 110, 116, 45, 108, 111, 99, 97, 116, 105, 111, 110]
def mL : Msg := ⟨[], [], 201, [], 0, [([76, 111, 99, 97, 116, 105, 111, 110], [47, 121])], []⟩
theorem fdL : FdOk mL.fs := ⟨by decide, by decide, by decide⟩
theorem invalA : PureC Tryz.prog 29 [.agg false uA, .str [80, 79, 83, 84], .agg false (msgL mL)] (.sl [.agg false uA, .agg false uY]) := by
  have h1 := contains69 [[71, 69, 84], [72, 69, 65, 68], [79, 80, 84, 73, 79, 78, 83], [84, 82, 65, 67, 69]] [80, 79, 83, 84] (by decide)
  rw [show List.any [[71, 69, 84], [72, 69, 65, 68], [79, 80, 84, 73, 79, 78, 83], [84, 82, 65, 67, 69]] (eqP [80, 79, 83, 84]) = false by decide] at h1
  have h2 := one70 mL.fs locN fdL (by decide)
  have h3 := one70 mL.fs conN fdL (by decide)
  rw [show oneB mL.fs locN = ([47, 121], true) by decide] at h2
  rw [show oneB mL.fs conN = ([], false) by decide] at h3
  have h4 := contains72 [⟨[97], 80, [47, 120]⟩] ⟨[97], 80, [47, 121]⟩ (by decide)
  rw [show List.any [(⟨[97], 80, [47, 120]⟩ : Uri)] (eqU ⟨[97], 80, [47, 121]⟩) = false by decide] at h4
  refine pure_of_aw (ys := [_]) [] [] [] mixed Tryz.func29 rfl (by kernel_rfl) (by kernel_rfl) (by simp [Tryz.ntmps29]) rfl ?_
  simp [mL, uA, uriP]
  refine pcall_of h1 (by simp) ?_
  simp
  refine aw_loop (fun i : Nat => i ≤ 2) (fun i => [(3, .p (.ref (.agg false [.str [97], .int 80, .str [47, 120]]))), (5, .p (.ref (.agg false (msgL ⟨[], [], 201, [], 0, [([76, 111, 99, 97, 116, 105, 111, 110], [47, 121])], []⟩)))), (7, match i with | 0 => .full [.agg false [.str [97], .int 80, .str [47, 120]]] | _ + 1 => .own 0 [.agg false [.str [97], .int 80, .str [47, 120]], .agg false [.str [97], .int 80, .str [47, 121]]]),
      (31, .full [.str locN, .str conN]), (32, .p (.int 2)), (33, .p (.int i))])
    (fun i => match i with | 0 => ⟨[], [], 0⟩ | _ + 1 => ⟨[], [(0, 54, 3)], 1⟩) (fun i => 2 - i) 0 (by omega) _ (AS.le_refl _ _) (leN_id (by simp [locN, conN])) ?_
  intro i hi
  rcases (by omega : i = 0 ∨ i = 1 ∨ i = 2) with rfl | rfl | rfl
  · simp
    refine pcall_of h2 (by simp [mL]) ?_
    simp
    refine pcall_of resolveY (by simp [uA, uriP]) ?_
    simp [uY, uriP]
    refine pcall_of h4 (by simp) ?_
    simp [wr1]
    trace_state
    exact ⟨1, by omega, by omega, leN_of [(0, 1)] (by simp)⟩
  · simp
    refine pcall_of h3 (by simp [mL]) ?_
    simp
    refine pcall_of resolveN (by simp [uA, uriP]) ?_
    simp [uA, uriP, wr2]
    exact ⟨2, by omega, by omega, leN_id (by simp)⟩
  · simp [uY, uriP, Tryz.results29]
end Go.Av

/-! part Z120 -/
namespace Go.Av
open Go.Proofs
set_option maxRecDepth 100000
def ccH : List UInt8 := [67, 97, 99, 104, 101, 45, 67, 111, 110, 116, 114, 111, 108]
def mG : Msg := ⟨[71, 69, 84], [47], 0, [], 1, [], []⟩
def mA : Msg := ⟨[], [], 200, [], 1, [(ccH, [109, 97, 120, 45, 97, 103, 101, 61, 48])], []⟩
def mB : Msg := ⟨[], [], 200, [], 1, [(ccH, [112, 114, 105, 118, 97, 116, 101])], []⟩
theorem storA : storB parseD mG mA = true := by kernel_rfl
theorem storBb : storB parseD mG mB = false := by kernel_rfl
theorem awake21 : PureC Tryz.prog 21 [] (.bool true) := by
  have hA := Storable23 parseD parse_D mG mA ⟨by decide, by decide, by decide⟩ ⟨by decide, by decide, by decide⟩ (parse_Fs (by kernel_rfl))
  have hB := Storable23 parseD parse_D mG mB ⟨by decide, by decide, by decide⟩ ⟨by decide, by decide, by decide⟩ (parse_Fs (by kernel_rfl))
  rw [storA] at hA
  rw [storBb] at hB
  refine pure_of_aw (ys := [_]) [] [(6, [(0, .r 1), (1, .r 2), (4, .r 1), (5, .r 3), (18, .r 4)])] [(1, 0), (2, 1), (3, 2), (4, 3)] mixed Tryz.func21 rfl (by kernel_rfl) (by kernel_rfl) (by simp [Tryz.ntmps21]) rfl ?_
  simp
  refine pcall_of invalA (by simp [uA, uriP, mL, bytesPC]) ?_
  simp [uA, uY, uriP]
  refine call_of hA ?_
  simp
  refine call_of hB ?_
  simp [Tryz.results21]
end Go.Av

/-! part Z121 -/
namespace Go.Av
open Go.Proofs
set_option maxRecDepth 100000
def shrM (x : Msg) : Bool := decide (x.fs.length ≤ 30) && decide (x.body.length ≤ 1000) && decide (x.m.length ≤ 100) && x.fs.all fun f => decide (f.1.length ≤ 300) && decide (f.2.length ≤ 500)
@[reducible] def msP (x : Msg) : PC := .agg false (msgL x)
def lenOk (x : Msg) : Prop := x.fs.length ≤ 9223372036854775807 ∧ x.body.length ≤ 9223372036854775807
set_option maxHeartbeats 2000000 in
theorem short22 (xs : List Msg) (hl : xs.length ≤ 1000) (hx : ∀ x ∈ xs, lenOk x) : PureC Tryz.prog 22 [.sl (xs.map msP)] (.bool (xs.all shrM)) := by
  refine pure_of_aw (ys := [_]) [] [] [] mixed Tryz.func22 rfl (by kernel_rfl) (by kernel_rfl) (by simp [Tryz.ntmps22]) rfl ?_
  obtain ⟨R, hR⟩ : ∃ R, R = xs.all shrM := ⟨_, rfl⟩
  rw [← hR]
  simp
  refine aw_loop0 (fun k : Nat => k ≤ xs.length ∧ ∀ x ∈ xs.take k, shrM x = true) (fun k => [(0, .p (.sl (xs.map msP))), (3, .p (.int k))]) (fun k => xs.length - k) 0 ⟨by simp, by simp⟩ (leN_id (by simp)) ?_
  rintro k ⟨h1, h2⟩
  by_cases ck : k < xs.length
  case neg =>
    obtain rfl : k = xs.length := by omega
    rw [List.take_length] at h2
    have e : R = true := by rw [hR, List.all_eq_true]; exact h2
    subst e
    simp [Tryz.results22]
  have wk : IntKind.i64.wrap ((k : Int) + 1) = ((k + 1 : Nat) : Int) := by rw [wrap64_id (by omega) (by omega)]; rfl
  have hmem := List.getElem_mem ck
  have hlk := hx xs[k] hmem
  have hfl : shrM xs[k] = false → R = false := fun h => by rw [hR, List.all_eq_false]; exact ⟨xs[k], hmem, by simp [h]⟩
  have hnx : shrM xs[k] = true → ∀ x ∈ xs.take (k + 1), shrM x = true := fun h x hx => by
    rw [List.take_succ_eq_append_getElem ck, List.mem_append] at hx
    rcases hx with hx | hx
    · exact h2 x hx
    · simp at hx; rw [hx]; exact h
  simp [ck]
  generalize xs[k] = x at *
  obtain ⟨m, t, st, r, mi, fs, body⟩ := x
  obtain ⟨hl1, hl2⟩ := hlk
  simp only at hl1 hl2
  simp
  by_cases c1 : fs.length ≤ 30
  case neg =>
    have d : (30 : Int) < (fs.length : Int) := by omega
    have e := hfl (by simp [shrM, c1])
    simp [d, show 30 < fs.length by omega, e, Tryz.results22]
  have d1 : ¬ (30 : Int) < (fs.length : Int) := by omega
  by_cases c2 : body.length ≤ 1000
  case neg =>
    have d : (1000 : Int) < (body.length : Int) := by omega
    have e := hfl (by simp [shrM, c2])
    simp [d1, show ¬ 30 < fs.length by omega, d, show 1000 < body.length by omega, e, Tryz.results22]
  have d2 : ¬ (1000 : Int) < (body.length : Int) := by omega
  by_cases c3 : m.length ≤ 100
  case neg =>
    have d : (100 : Int) < (m.length : Int) := by omega
    have e := hfl (by simp [shrM, c3])
    simp [d1, show ¬ 30 < fs.length by omega, d2, show ¬ 1000 < body.length by omega, d, show 100 < m.length by omega, e, Tryz.results22]
  have d3 : ¬ (100 : Int) < (m.length : Int) := by omega
  simp [d1, show ¬ 30 < fs.length by omega, d2, show ¬ 1000 < body.length by omega, d3, show ¬ 100 < m.length by omega]
  refine aw_loop (fun j : Nat => j ≤ fs.length ∧ ∀ f ∈ fs.take j, f.1.length ≤ 300 ∧ f.2.length ≤ 500) (fun j => [(0, .p (.sl (xs.map msP))), (3, .p (.int k)), (4, .obj 0 0), (5, .p (.int j))])
    (fun _ => ⟨[(0, ⟨27, 7, [.p (.str m), .p (.str t), .p (.int st), .p (.str r), .p (.int mi), .p (.sl (fs.map fdP)), .p (.sl (bytesPC body))]⟩)], [], 1⟩) (fun j => fs.length - j) 0 ⟨by simp, by simp⟩ _ (AS.le_refl _ _) (leN_id (by simp)) ?_
  rintro j ⟨g1, g2⟩
  by_cases cj : j < fs.length
  · have wj : IntKind.i64.wrap ((j : Int) + 1) = ((j + 1 : Nat) : Int) := by rw [wrap64_id (by omega) (by omega)]; rfl
    have hbad : ¬ (fs[j].1.length ≤ 300 ∧ fs[j].2.length ≤ 500) → R = false := fun h => hfl (by
      unfold shrM
      simp only [decide_eq_true c1, decide_eq_true c2, decide_eq_true c3, Bool.true_and]
      rw [List.all_eq_false]
      exact ⟨fs[j], List.getElem_mem cj, by simpa using h⟩)
    by_cases cl : fs[j].1.length ≤ 300
    · have e2 : ¬ (300 : Int) < (fs[j].1.length : Int) := by omega
      by_cases cm : fs[j].2.length ≤ 500
      · have e3 : ¬ (500 : Int) < (fs[j].2.length : Int) := by omega
        simp [cj, e2, show ¬ 300 < fs[j].1.length by omega, e3, show ¬ 500 < fs[j].2.length by omega, wj]
        refine ⟨j + 1, ⟨by omega, ?_⟩, by omega, leN_id (by simp)⟩
        intro a b hx
        rw [List.take_succ_eq_append_getElem cj] at hx
        rcases List.mem_append.1 hx with hx | hx
        · exact g2 _ hx
        · simp at hx
          rw [← hx] at cl cm
          exact ⟨cl, cm⟩
      · have e3 : (500 : Int) < (fs[j].2.length : Int) := by omega
        have e := hbad (fun h => cm h.2)
        simp [cj, e2, show ¬ 300 < fs[j].1.length by omega, e3, show 500 < fs[j].2.length by omega, e, Tryz.results22]
    · have e2 : (300 : Int) < (fs[j].1.length : Int) := by omega
      have e := hbad (fun h => cl h.1)
      simp [cj, e2, show 300 < fs[j].1.length by omega, e, Tryz.results22]
  · obtain rfl : j = fs.length := by omega
    rw [List.take_length] at g2
    have hgood : shrM ⟨m, t, st, r, mi, fs, body⟩ = true := by
      unfold shrM
      simp only [decide_eq_true c1, decide_eq_true c2, decide_eq_true c3, Bool.true_and]
      rw [List.all_eq_true]
      exact fun v hv => by simpa using g2 v hv
    simp [wk]
    exact ⟨k + 1, ⟨by omega, hnx hgood⟩, by omega, leN_id (by simp)⟩
end Go.Av

/-! part Z122 -/
namespace Go.Av
open Go.Proofs
set_option maxRecDepth 100000
theorem parse_Fs2 {fs : List Fd} (hs : ∀ f ∈ fs, f.1.length ≤ 300 ∧ f.2.length ≤ 500) : DFs parseD fs :=
  ⟨fun _ => Parse117 _ (by have := one_len hs datN; omega), fun _ => Parse117 _ (by have := one_len hs expN; omega), fun _ => Parse117 _ (by have := one_len hs lamN; omega)⟩
theorem tot_le {fs : List Fd} (hs : ∀ f ∈ fs, f.1.length ≤ 300 ∧ f.2.length ≤ 500) : totB (fs.map (·.2)) ≤ 500 * fs.length := by
  induction fs with
  | nil => simp [totB]
  | cons f fs ih =>
    rw [List.map_cons, totB_cons]
    have h1 := (hs f (by simp)).2
    have h2 := ih (fun g hg => hs g (by simp [hg]))
    simp only [List.length_cons]
    omega
theorem fd_ok2 {fs : List Fd} (hl : fs.length ≤ 100) (hs : ∀ f ∈ fs, f.1.length ≤ 300 ∧ f.2.length ≤ 500) : FdOk fs :=
  ⟨by omega, by have := tot_le hs; omega, fun f hf => by have := (hs f hf).1; omega⟩
theorem shr_ok {x : Msg} (h : shrM x = true) : x.fs.length ≤ 30 ∧ (∀ f ∈ x.fs, f.1.length ≤ 300 ∧ f.2.length ≤ 500) := by
  unfold shrM at h
  simp only [Bool.and_eq_true, decide_eq_true_eq, List.all_eq_true] at h
  exact ⟨h.1.1.1, h.2⟩
end Go.Av

/-! part Z123 -/
namespace Go.Av
open Go.Proofs
set_option maxRecDepth 100000
end Go.Av

/-! part Z124 -/
namespace Go.Av
open Go.Proofs
end Go.Av
