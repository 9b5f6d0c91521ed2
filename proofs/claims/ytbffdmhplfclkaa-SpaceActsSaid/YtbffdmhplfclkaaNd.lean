/- How rows are read; SpaceFirst computes true; segments. -/
import Derived.Test.YtbffdmhplfclkaaNc
set_option linter.all false
/-! part P16r -/
namespace Go.Av
open Go.Proofs

theorem nn_val (v : Int) (q : Nat) (hq : 1 ≤ q) (hq2 : q ≤ 50) : ∃ k : Nat, k < q ∧ IntKind.i64.wrap (v.tmod q + q) = v.tmod q + q ∧ (v.tmod q + q).tmod q = k := by
  have h1 : v.tmod q < q := Int.tmod_lt_of_pos v (by omega)
  have h2 : -(q : Int) < v.tmod q := by
    have := Int.tmod_lt_of_pos (-v) (b := (q : Int)) (by omega)
    rw [Int.neg_tmod] at this; omega
  refine ⟨((v.tmod q + q).tmod q).toNat, ?_, wrap64_id (by omega) (by omega), ?_⟩
  · have h3 : (v.tmod q + q).tmod q = (v.tmod q + q) % q := Int.tmod_eq_emod_of_nonneg (by omega)
    have h4 := Int.emod_lt_of_pos (v.tmod q + q) (b := (q : Int)) (by omega)
    have h5 := Int.emod_nonneg (v.tmod q + q) (b := (q : Int)) (by omega)
    omega
  · have h3 : (v.tmod q + q).tmod q = (v.tmod q + q) % q := Int.tmod_eq_emod_of_nonneg (by omega)
    have h5 := Int.emod_nonneg (v.tmod q + q) (b := (q : Int)) (by omega)
    omega
theorem szL_fst {next : Nat} (h : next ≤ 200) : szL (fstF next) = 200 - next := by
  unfold fstF; split <;> simp [szL]; omega

theorem fst_take {next q : Nat} (h1 : 1 ≤ q) (h2 : next + q ≤ 200) : GenC Try.prog 9 [.obj 1 0, .p (.int q)] ⟨mapB 1 0 2 3 200 (fstF next) (fstR next) [], [], 4⟩ (.agg true [.p (extP (next, q)), .p (.bool true)])
    ⟨mapB 1 4 5 3 200 (fstF (next + q)) (fstR (next + q)) [], [], 6⟩ := by
  have e0 : fstF next = [(next, 200 - next)] := by unfold fstF; rw [if_pos (by omega)]
  have ok := fstF_ok (next := next)
  rw [e0] at ok
  have := take9s 1 0 2 3 4 200 (by constructor <;> omega) [(next, 200 - next)] (fstR next) [] q 0 (ok.nrm (by omega)) ((fstR_ok (by omega)).nrm (by omega)) h1 (by simp) (by simp; omega) (by omega)
  obtain ⟨s1, s2⟩ := fst_step h1 h2
  rw [e0] at s1
  simp only [List.getElem_cons_zero] at this
  rw [s1, s2] at this
  rw [e0]; exact this
theorem fst_not {next q : Nat} (h2 : 200 < next + q) : GenC Try.prog 9 [.obj 1 0, .p (.int q)] ⟨mapB 1 0 2 3 200 (fstF next) (fstR next) [], [], 4⟩ (.agg true [.p (extP (0, 0)), .p (.bool false)])
    ⟨mapB 1 0 2 3 200 (fstF next) (fstR next) [], [], 4⟩ :=
  take9n 1 0 2 3 4 200 (by constructor <;> omega) (fstF next) (fstR next) [] q (fstF_ok.nrm (by omega)) (.inr (by
    unfold fstF; split
    · intro e he; simp at he; subst he; simp only; omega
    · simp))

set_option maxHeartbeats 4000000 in
set_option maxRecDepth 100000 in
theorem law3 (ns : List Int) : PureC Try.prog 3 [.sl (ns.map PC.int)] (.bool true) := by
  refine pure_of_aw (ys := [_]) [] [] [] mixed Try.func3 rfl (by kernel_rfl) (by kernel_rfl) (by simp [Try.ntmps3]) rfl ?_
  simp
  refine pcall_of awake7 (by simp) ?_
  by_cases c : 40 < ns.length
  · have c' : decide ((40 : Int) < ns.length) = true := by simp; omega
    simp [c']
    refine pcall_of awake7 (by simp) ?_
    simp [Try.results3]
  · have c' : decide ((40 : Int) < ns.length) = false := by simp; omega
    simp [c']
    refine gcall_of0 (new8 0 200 (by omega) (by omega)) (by simp) (by simp [sub1]) trivial rfl ?_
    simp
    refine aw_loop (fun x : Nat × Nat => x.1 ≤ ns.length ∧ x.2 ≤ 200) (fun x => [(0, .p (.sl (ns.map PC.int))), (3, .obj 1 0), (5, .p (.int x.2)), (6, .p (.int x.1))])
      (fun x => ⟨mapB 1 0 2 3 200 (fstF x.2) (fstR x.2) [], [], 4⟩) (fun x => ns.length - x.1) (0, 0) (by simp) _ (AS.le_refl _ _) (leN_id (by simp [mapB, mapO, mapX, fstF, fstR])) ?_
    rintro ⟨i, next⟩ ⟨h1, h2⟩
    simp only at h1 h2
    by_cases c1 : i < ns.length
    · obtain ⟨k, k1, k2, k3⟩ := nn_val ns[i] 20 (by omega) (by omega)
      have k4 : IntKind.i64.wrap (1 + (k : Int)) = ((k + 1 : Nat) : Int) := by rw [wrap64_id (by omega) (by omega)]; omega
      have k2 : IntKind.i64.wrap (ns[i].tmod 20 + 20) = ns[i].tmod 20 + 20 := k2
      have k3 : (ns[i].tmod 20 + 20).tmod 20 = (k : Int) := k3
      have k5 : IntKind.i64.wrap ((next : Int) + ((k : Int) + 1)) = ((next + (k + 1) : Nat) : Int) := by rw [wrap64_id (by omega) (by omega)]; omega
      simp [c1, k2, k3, k4]
      by_cases c2 : next + (k + 1) ≤ 200
      · have d1 : decide ((next : Int) + ((k : Int) + 1) ≤ 200) = true := by simp; omega
        refine gcall_of0 (fst_take (next := next) (q := k + 1) (by omega) c2) (by simp) (by simp [sub1, mapB, mapO, mapX]) trivial rfl ?_
        simp at k5
        simp [mapB, mapO, mapX, k5, d1]
        refine ⟨i + 1, next + (k + 1), ⟨by omega, by omega⟩, by omega, leN_of [(0, 4), (2, 5)] ?_⟩
        simp [mapB, mapO, mapX, wrap64_id (n := (i : Int) + 1) (by omega) (by omega)]
      · have d1 : decide ((next : Int) + ((k : Int) + 1) ≤ 200) = false := by simp; omega
        refine gcall_of0 (fst_not (next := next) (q := k + 1) (by omega)) (by simp) (by simp [sub1, mapB, mapO, mapX]) trivial rfl ?_
        simp at k5
        simp [mapB, mapO, mapX, k5, d1]
        refine ⟨i + 1, next, ⟨by omega, by omega⟩, by omega, leN_id ?_⟩
        simp [mapB, mapO, mapX, wrap64_id (n := (i : Int) + 1) (by omega) (by omega)]
    · have e : i = ns.length := by omega
      subst e
      simp
      refine gcall_of0 (free10 1 0 2 3 4 200 (by constructor <;> omega) (fstF next) (fstR next) [] (fstF_ok.nrm (by omega))) (by simp) (by simp [sub1, mapB, mapO, mapX]) trivial rfl ?_
      have w : IntKind.i64.wrap (200 - (next : Int)) = ((200 - next : Nat) : Int) := by rw [wrap64_id (by omega) (by omega)]; omega
      simp [Try.results3, szL_fst h2, w]
end Go.Av

/-! part P16s -/
namespace Go.Av
open Go.Proofs
theorem laidO : laidOutB Try.prog = true := by kernel_rfl
theorem cellsT3 : Try.prog.cellsOf 3 = 1 := by kernel_rfl
def intS (x : PC) : Prop := ∃ n : Int, x = .int n ∧ -9223372036854775808 ≤ n ∧ n ≤ 9223372036854775807
def intsS (x : PC) : Prop := ∃ vs : List Int, x = .sl (vs.map PC.int)
def boolS (x : PC) : Prop := ∃ b : Bool, x = .bool b
theorem ints_of {xs : List PC} (h : ∀ x ∈ xs, ∃ n : Int, x = .int n ∧ (Lit.int .i64 n).wf = true) : ∃ ks : List Int, xs = ks.map PC.int := by
  induction xs with
  | nil => exact ⟨[], rfl⟩
  | cons x xs ih =>
    obtain ⟨ks, rfl⟩ := ih fun y hy => h y (by simp [hy])
    obtain ⟨s, rfl, _⟩ := h x (by simp)
    exact ⟨s :: ks, rfl⟩
theorem bounds_i64 {n : Int} (h : (Lit.int .i64 n).wf = true) : -9223372036854775808 ≤ n ∧ n ≤ 9223372036854775807 := by
  have a : IntKind.i64.min = -9223372036854775808 := rfl
  have b : IntKind.i64.max = 9223372036854775807 := rfl
  simp only [Lit.wf, Bool.and_eq_true, decide_eq_true_eq, a, b] at h
  exact h
theorem rd3 : RdV Try.prog 3 intS :=
  rv_one (by rw [Try.underlying3]; simp) (by rw [Try.underlying3]; simp) ((rd_int Try.underlying3).c.mono fun x ⟨n, h, hw⟩ => ⟨n, h, bounds_i64 hw⟩) (by rintro x ⟨s, rfl, _⟩ b xs h; cases h)
theorem rd4 : RdV Try.prog 4 boolS :=
  rv_one (by rw [Try.underlying4]; simp) (by rw [Try.underlying4]; simp) ((rd_bool Try.underlying4).c.mono fun x h => h) (by rintro x ⟨s, rfl⟩ b xs h; cases h)
theorem rd22 : RdV Try.prog 22 intsS :=
  rv_one (by rw [Try.underlying22]; simp) (by rw [Try.underlying22]; simp) ((rd_slice Try.underlying22 (by rw [cellsT3]; omega) (rd_int Try.underlying3)).mono fun x ⟨xs, h, _, hv⟩ => by
    obtain ⟨vs, rfl⟩ := ints_of hv; exact ⟨vs, h⟩) (by rintro x ⟨s, rfl⟩ b xs h; cases h)
theorem law3n {x : PC} (hx : intsS x) : PureC Try.prog 3 [x] (.bool true) := by
  obtain ⟨vs, rfl⟩ := hx
  exact law3 vs
end Go.Av

/-! part P16u -/
namespace Go.Av
open Go.Proofs

/-- the sectors from a up to b -/
def seg (a b : Nat) : List Ext := if a < b then [(a, b - a)] else []
theorem seg_lt {a b : Nat} (h : a < b) : seg a b = [(a, b - a)] := if_pos h
theorem seg_nil {a b : Nat} (h : b ≤ a) : seg a b = [] := if_neg (by omega)
theorem seg_ok {a b n : Nat} (h : b ≤ n) : Ok n (seg a b) := by
  unfold seg; split
  · exact ok_dec (by simp; omega) (by simp) (by simp; omega)
  · exact ok_nil
theorem seg_mem {a b s : Nat} : mem (seg a b) s ↔ a ≤ s ∧ s < b := by
  unfold seg; split
  · rw [mem_cons]; simp [inE]; omega
  · simp; omega
theorem seg_sz {a b : Nat} : szL (seg a b) = b - a := by
  unfold seg; split <;> simp [szL]; omega
/-- two lists of extents with the same sectors are the same -/
theorem nr_uniq : ∀ {L M : List Ext}, Nr L → Nr M → (∀ s, mem L s ↔ mem M s) → L = M
  | [], [], _, _, _ => rfl
  | [], e :: M, _, hM, h => by
    have := (h e.1).2 (mem_cons.2 (.inl ⟨Nat.le_refl _, by have := (nr_cons.1 hM).1; omega⟩))
    exact absurd this mem_nil
  | e :: L, [], hL, _, h => by
    have := (h e.1).1 (mem_cons.2 (.inl ⟨Nat.le_refl _, by have := (nr_cons.1 hL).1; omega⟩))
    exact absurd this mem_nil
  | e :: L, x :: M, hL, hM, h => by
    obtain ⟨l1, l2, l3⟩ := nr_cons.1 hL
    obtain ⟨m1, m2, m3⟩ := nr_cons.1 hM
    have lowL : ∀ s, mem (e :: L) s → e.1 ≤ s := by
      intro s hs
      rcases mem_cons.1 hs with hs | ⟨b, hb, hs⟩
      · exact hs.1
      · have := l3 b hb; unfold inE at hs; omega
    have lowM : ∀ s, mem (x :: M) s → x.1 ≤ s := by
      intro s hs
      rcases mem_cons.1 hs with hs | ⟨b, hb, hs⟩
      · exact hs.1
      · have := m3 b hb; unfold inE at hs; omega
    have e1 : e.1 = x.1 := by
      have a := lowM e.1 ((h e.1).1 (mem_cons.2 (.inl ⟨Nat.le_refl _, by omega⟩)))
      have b := lowL x.1 ((h x.1).2 (mem_cons.2 (.inl ⟨Nat.le_refl _, by omega⟩)))
      omega
    have endL : ¬ mem (e :: L) (e.1 + e.2) := by
      intro hs
      rcases mem_cons.1 hs with hs | ⟨b, hb, hs⟩
      · unfold inE at hs; omega
      · have := l3 b hb; unfold inE at hs; omega
    have endM : ¬ mem (x :: M) (x.1 + x.2) := by
      intro hs
      rcases mem_cons.1 hs with hs | ⟨b, hb, hs⟩
      · unfold inE at hs; omega
      · have := m3 b hb; unfold inE at hs; omega
    have e2 : e.2 = x.2 := by
      rcases Nat.lt_trichotomy e.2 x.2 with c | c | c
      · exact absurd ((h _).2 (mem_cons.2 (.inl ⟨by omega, by omega⟩))) endL
      · exact c
      · exact absurd ((h _).1 (mem_cons.2 (.inl ⟨by omega, by omega⟩))) endM
    have ee : e = x := Prod.ext e1 e2
    subst ee
    rw [nr_uniq l2 m2]
    intro s
    have hs := h s
    rw [mem_cons, mem_cons] at hs
    constructor
    · intro hm
      rcases hs.1 (.inr hm) with hi | hi
      · obtain ⟨b, hb, hbs⟩ := hm; have := l3 b hb; unfold inE at hi hbs; omega
      · exact hi
    · intro hm
      rcases hs.2 (.inr hm) with hi | hi
      · obtain ⟨b, hb, hbs⟩ := hm; have := m3 b hb; unfold inE at hi hbs; omega
      · exact hi

theorem seg_has {a b : Nat} {e : Ext} (he : 1 ≤ e.2) : hasB (seg a b) e = decide (a ≤ e.1 ∧ e.1 + e.2 ≤ b) := by
  rw [Bool.eq_iff_iff, has_iff (seg_ok (Nat.le_refl b)).nr e he]
  simp only [seg_mem, inE, decide_eq_true_eq]
  constructor
  · intro h
    have h1 := h e.1 ⟨Nat.le_refl _, by omega⟩
    have h2 := h (e.1 + e.2 - 1) ⟨by omega, by omega⟩
    omega
  · intro h s hs; omega
theorem seg_mt {a b : Nat} {e : Ext} (he : 1 ≤ e.2) : mtB (seg a b) e = decide (a < b ∧ a < e.1 + e.2 ∧ e.1 < b) := by
  rw [Bool.eq_iff_iff, mt_iff (seg_ok (Nat.le_refl b)).nr e he]
  simp only [seg_mem, inE, decide_eq_true_eq]
  constructor
  · rintro ⟨s, h1, h2⟩; omega
  · intro h
    by_cases c : a ≤ e.1
    · exact ⟨e.1, by omega, by omega⟩
    · exact ⟨a, by omega, by omega⟩
theorem seg_cut {a b k : Nat} (h1 : 1 ≤ k) (h2 : a + k ≤ b) : cutL (seg a b) (a, k) = seg (a + k) b := by
  obtain ⟨g1, g2⟩ := (seg_ok (a := a) (Nat.le_refl b)).cut (e := (a, k)) h1 (by rw [seg_has h1]; simp; omega)
  refine nr_uniq g1.nr (seg_ok (Nat.le_refl b)).nr fun s => ?_
  rw [g2, seg_mem, seg_mem]; unfold inE; simp only; omega
theorem seg_putR {a b k : Nat} (h1 : 1 ≤ k) (h2 : a ≤ b) : putL (seg a b) (b, k) = seg a (b + k) := by
  obtain ⟨g1, g2⟩ := (seg_ok (n := b + k) (a := a) (b := b) (by omega)).put (e := (b, k)) h1 (by rw [seg_mt h1]; simp) (Nat.le_refl _)
  refine nr_uniq g1.nr (seg_ok (Nat.le_refl _)).nr fun s => ?_
  rw [g2, seg_mem, seg_mem]; unfold inE; simp only; omega
theorem seg_putL {c k b : Nat} (h1 : 1 ≤ k) (h2 : c + k ≤ b) : putL (seg (c + k) b) (c, k) = seg c b := by
  obtain ⟨g1, g2⟩ := (seg_ok (n := b) (a := c + k) (b := b) (by omega)).put (e := (c, k)) h1 (by rw [seg_mt h1]; simp) h2
  refine nr_uniq g1.nr (seg_ok (Nat.le_refl _)).nr fun s => ?_
  rw [g2, seg_mem, seg_mem]; unfold inE; simp only; omega

section
variable {m f r w nx n : Nat}
theorem seg_take (h : Ids m f r w nx) (hn : n ≤ 1000) {a b c q : Nat} (hq : 1 ≤ q) (hab : a + q ≤ b) (hb : b ≤ n) (hc : c ≤ a) (W : List Ext) :
    GenC Try.prog 9 [.obj m 0, .p (.int q)] ⟨mapB m f r w n (seg a b) (seg c a) W, [], nx⟩ (.agg true [.p (extP (a, q)), .p (.bool true)]) ⟨mapB m nx (nx + 1) w n (seg (a + q) b) (seg c (a + q)) W, [], nx + 2⟩ := by
  have hs : seg a b = [(a, b - a)] := seg_lt (by omega)
  have ok := seg_ok (a := a) hb
  have s1 := seg_cut (a := a) (b := b) hq hab
  rw [hs] at ok s1
  have := take9s m f r w nx n h [(a, b - a)] (seg c a) W q 0 (ok.nrm hn) ((seg_ok (a := c) (b := a) (n := n) (by omega)).nrm hn) hq (by simp) (by simp; omega) (by omega)
  simp only [List.getElem_cons_zero] at this
  rw [s1, seg_putR hq hc] at this
  rw [hs]; exact this
theorem seg_not (h : Ids m f r w nx) (hn : n ≤ 1000) {a b q : Nat} (hab : b < a + q) (hb : b ≤ n) (R W : List Ext) :
    GenC Try.prog 9 [.obj m 0, .p (.int q)] ⟨mapB m f r w n (seg a b) R W, [], nx⟩ (.agg true [.p (extP (0, 0)), .p (.bool false)]) ⟨mapB m f r w n (seg a b) R W, [], nx⟩ :=
  take9n m f r w nx n h (seg a b) R W q ((seg_ok (a := a) hb).nrm hn) (.inr (by
    unfold seg; split
    · intro e he; simp at he; subst he; simp only; omega
    · simp))
end
end Go.Av
