/- SpaceWaits computes true of any three numbers. -/
import Derived.Test.YtbffdmhplfclkaaNd
set_option linter.all false
/-! part P16u -/
namespace Go.Av
open Go.Proofs

/-- the sectors from a up to b -/
def seg (a b : Nat) : List Ext := if a < b then [(a, b - a)] else []
theorem seg_lt {a b : Nat} (h : a < b) : seg a b = [(a, b - a)] := if_pos h
theorem seg_nil {a b : Nat} (h : b ≤ a) : seg a b = [] := if_neg (by omega)
theorem seg_ok {a b n : Nat} (h : b ≤ n) : Ok n (seg a b) := by
  unfold seg; split
  · exact ok_dec (by simp; omega) (by simp) (by simp; omega)
  · exact ok_nil
theorem seg_mem {a b s : Nat} : mem (seg a b) s ↔ a ≤ s ∧ s < b := by
  unfold seg; split
  · rw [mem_cons]; simp [inE]; omega
  · simp; omega
theorem seg_sz {a b : Nat} : szL (seg a b) = b - a := by
  unfold seg; split <;> simp [szL]; omega
/-- two lists of extents with the same sectors are the same -/
theorem nr_uniq : ∀ {L M : List Ext}, Nr L → Nr M → (∀ s, mem L s ↔ mem M s) → L = M
  | [], [], _, _, _ => rfl
  | [], e :: M, _, hM, h => by
    have := (h e.1).2 (mem_cons.2 (.inl ⟨Nat.le_refl _, by have := (nr_cons.1 hM).1; omega⟩))
    exact absurd this mem_nil
  | e :: L, [], hL, _, h => by
    have := (h e.1).1 (mem_cons.2 (.inl ⟨Nat.le_refl _, by have := (nr_cons.1 hL).1; omega⟩))
    exact absurd this mem_nil
  | e :: L, x :: M, hL, hM, h => by
    obtain ⟨l1, l2, l3⟩ := nr_cons.1 hL
    obtain ⟨m1, m2, m3⟩ := nr_cons.1 hM
    have lowL : ∀ s, mem (e :: L) s → e.1 ≤ s := by
      intro s hs
      rcases mem_cons.1 hs with hs | ⟨b, hb, hs⟩
      · exact hs.1
      · have := l3 b hb; unfold inE at hs; omega
    have lowM : ∀ s, mem (x :: M) s → x.1 ≤ s := by
      intro s hs
      rcases mem_cons.1 hs with hs | ⟨b, hb, hs⟩
      · exact hs.1
      · have := m3 b hb; unfold inE at hs; omega
    have e1 : e.1 = x.1 := by
      have a := lowM e.1 ((h e.1).1 (mem_cons.2 (.inl ⟨Nat.le_refl _, by omega⟩)))
      have b := lowL x.1 ((h x.1).2 (mem_cons.2 (.inl ⟨Nat.le_refl _, by omega⟩)))
      omega
    have endL : ¬ mem (e :: L) (e.1 + e.2) := by
      intro hs
      rcases mem_cons.1 hs with hs | ⟨b, hb, hs⟩
      · unfold inE at hs; omega
      · have := l3 b hb; unfold inE at hs; omega
    have endM : ¬ mem (x :: M) (x.1 + x.2) := by
      intro hs
      rcases mem_cons.1 hs with hs | ⟨b, hb, hs⟩
      · unfold inE at hs; omega
      · have := m3 b hb; unfold inE at hs; omega
    have e2 : e.2 = x.2 := by
      rcases Nat.lt_trichotomy e.2 x.2 with c | c | c
      · exact absurd ((h _).2 (mem_cons.2 (.inl ⟨by omega, by omega⟩))) endL
      · exact c
      · exact absurd ((h _).1 (mem_cons.2 (.inl ⟨by omega, by omega⟩))) endM
    have ee : e = x := Prod.ext e1 e2
    subst ee
    rw [nr_uniq l2 m2]
    intro s
    have hs := h s
    rw [mem_cons, mem_cons] at hs
    constructor
    · intro hm
      rcases hs.1 (.inr hm) with hi | hi
      · obtain ⟨b, hb, hbs⟩ := hm; have := l3 b hb; unfold inE at hi hbs; omega
      · exact hi
    · intro hm
      rcases hs.2 (.inr hm) with hi | hi
      · obtain ⟨b, hb, hbs⟩ := hm; have := m3 b hb; unfold inE at hi hbs; omega
      · exact hi

theorem seg_has {a b : Nat} {e : Ext} (he : 1 ≤ e.2) : hasB (seg a b) e = decide (a ≤ e.1 ∧ e.1 + e.2 ≤ b) := by
  rw [Bool.eq_iff_iff, has_iff (seg_ok (Nat.le_refl b)).nr e he]
  simp only [seg_mem, inE, decide_eq_true_eq]
  constructor
  · intro h
    have h1 := h e.1 ⟨Nat.le_refl _, by omega⟩
    have h2 := h (e.1 + e.2 - 1) ⟨by omega, by omega⟩
    omega
  · intro h s hs; omega
theorem seg_mt {a b : Nat} {e : Ext} (he : 1 ≤ e.2) : mtB (seg a b) e = decide (a < b ∧ a < e.1 + e.2 ∧ e.1 < b) := by
  rw [Bool.eq_iff_iff, mt_iff (seg_ok (Nat.le_refl b)).nr e he]
  simp only [seg_mem, inE, decide_eq_true_eq]
  constructor
  · rintro ⟨s, h1, h2⟩; omega
  · intro h
    by_cases c : a ≤ e.1
    · exact ⟨e.1, by omega, by omega⟩
    · exact ⟨a, by omega, by omega⟩
theorem seg_cut {a b k : Nat} (h1 : 1 ≤ k) (h2 : a + k ≤ b) : cutL (seg a b) (a, k) = seg (a + k) b := by
  obtain ⟨g1, g2⟩ := (seg_ok (a := a) (Nat.le_refl b)).cut (e := (a, k)) h1 (by rw [seg_has h1]; simp; omega)
  refine nr_uniq g1.nr (seg_ok (Nat.le_refl b)).nr fun s => ?_
  rw [g2, seg_mem, seg_mem]; unfold inE; simp only; omega
theorem seg_putR {a b k : Nat} (h1 : 1 ≤ k) (h2 : a ≤ b) : putL (seg a b) (b, k) = seg a (b + k) := by
  obtain ⟨g1, g2⟩ := (seg_ok (n := b + k) (a := a) (b := b) (by omega)).put (e := (b, k)) h1 (by rw [seg_mt h1]; simp) (Nat.le_refl _)
  refine nr_uniq g1.nr (seg_ok (Nat.le_refl _)).nr fun s => ?_
  rw [g2, seg_mem, seg_mem]; unfold inE; simp only; omega
theorem seg_putL {c k b : Nat} (h1 : 1 ≤ k) (h2 : c + k ≤ b) : putL (seg (c + k) b) (c, k) = seg c b := by
  obtain ⟨g1, g2⟩ := (seg_ok (n := b) (a := c + k) (b := b) (by omega)).put (e := (c, k)) h1 (by rw [seg_mt h1]; simp) h2
  refine nr_uniq g1.nr (seg_ok (Nat.le_refl _)).nr fun s => ?_
  rw [g2, seg_mem, seg_mem]; unfold inE; simp only; omega

section
variable {m f r w nx n : Nat}
theorem seg_take (h : Ids m f r w nx) (hn : n ≤ 1000) {a b c q : Nat} (hq : 1 ≤ q) (hab : a + q ≤ b) (hb : b ≤ n) (hc : c ≤ a) (W : List Ext) :
    GenC Try.prog 9 [.obj m 0, .p (.int q)] ⟨mapB m f r w n (seg a b) (seg c a) W, [], nx⟩ (.agg true [.p (extP (a, q)), .p (.bool true)]) ⟨mapB m nx (nx + 1) w n (seg (a + q) b) (seg c (a + q)) W, [], nx + 2⟩ := by
  have hs : seg a b = [(a, b - a)] := seg_lt (by omega)
  have ok := seg_ok (a := a) hb
  have s1 := seg_cut (a := a) (b := b) hq hab
  rw [hs] at ok s1
  have := take9s m f r w nx n h [(a, b - a)] (seg c a) W q 0 (ok.nrm hn) ((seg_ok (a := c) (b := a) (n := n) (by omega)).nrm hn) hq (by simp) (by simp; omega) (by omega)
  simp only [List.getElem_cons_zero] at this
  rw [s1, seg_putR hq hc] at this
  rw [hs]; exact this
theorem seg_not (h : Ids m f r w nx) (hn : n ≤ 1000) {a b q : Nat} (hab : b < a + q) (hb : b ≤ n) (R W : List Ext) :
    GenC Try.prog 9 [.obj m 0, .p (.int q)] ⟨mapB m f r w n (seg a b) R W, [], nx⟩ (.agg true [.p (extP (0, 0)), .p (.bool false)]) ⟨mapB m f r w n (seg a b) R W, [], nx⟩ :=
  take9n m f r w nx n h (seg a b) R W q ((seg_ok (a := a) hb).nrm hn) (.inr (by
    unfold seg; split
    · intro e he; simp at he; subst he; simp only; omega
    · simp))
end
end Go.Av

/-! part P16v -/
namespace Go.Av
open Go.Proofs

theorem right_one {n c k : Nat} (h1 : 1 ≤ k) (h2 : c + k ≤ n) : rightE n [] [((c : Int), (k : Int))] = true := by
  simp [rightE, okE, toE, mtB, aft]; omega
theorem giveB_one {n c k : Nat} {F W : List Ext} (h1 : 1 ≤ k) (h2 : c + k ≤ n) (hF : mtB F (c, k) = false) (hW : mtB W (c, k) = false) : giveB n F W [((c : Int), (k : Int))] = true := by
  unfold giveB; rw [right_one h1 h2]; simp [toE, hF, hW]
theorem holdB_one {n c k : Nat} {F : List Ext} (h1 : 1 ≤ k) (h2 : c + k ≤ n) : holdB n F [((c : Int), (k : Int))] = hasB F (c, k) := by
  unfold holdB; rw [right_one h1 h2]; simp [toE]

section
variable {m f r w nx n : Nat}
theorem seg_give (h : Ids m f r w nx) (hn : n ≤ 1000) {a b c k : Nat} {R : List Ext} (hb : b ≤ n) (hR : Ok n R) (hk : 1 ≤ k) (hc : c + k ≤ a) (ha : a ≤ n) :
    GenC Try.prog 16 [.obj m 0, .p (.sl [extP (c, k)])] ⟨mapB m f r w n (seg a b) R [], [], nx⟩ (.p (.bool true)) ⟨mapB m f r nx n (seg a b) R (seg c (c + k)), [], nx + 1⟩ := by
  have := give16 m f r w nx n h hn (seg a b) R [] (seg_ok hb) hR ok_nil [((c : Int), (k : Int))] (by simp)
  have hB : giveB n (seg a b) [] [((c : Int), (k : Int))] = true := giveB_one hk (by omega) (by rw [seg_mt hk]; simp; omega) (by simp [mtB, aft])
  have e : putL [] (c, k) = seg c (c + k) := by have := seg_putR (a := c) (b := c) hk (Nat.le_refl _); rwa [seg_nil (Nat.le_refl c)] at this
  rw [hB] at this
  simpa [toE, e] using this
theorem seg_holdn (h : Ids m f r w nx) (hn : n ≤ 1000) {a b c k : Nat} {R W : List Ext} (hb : b ≤ n) (hR : Ok n R) (hW : Ok n W) (hk : 1 ≤ k) (hc : c < a) (hcn : c + k ≤ n) :
    GenC Try.prog 18 [.obj m 0, .p (.sl [extP (c, k)])] ⟨mapB m f r w n (seg a b) R W, [], nx⟩ (.p (.bool false)) ⟨mapB m nx r w n (seg a b) R W, [], nx + 1⟩ := by
  have := hold18 m f r w nx n h hn (seg a b) R W (seg_ok hb) hR hW [((c : Int), (k : Int))] (by simp)
  have hB : holdB n (seg a b) [((c : Int), (k : Int))] = false := by rw [holdB_one hk hcn, seg_has hk]; simp; omega
  rw [hB] at this
  simpa using this
theorem seg_hold (h : Ids m f r w nx) (hn : n ≤ 1000) {b c k : Nat} {R W : List Ext} (hb : b ≤ n) (hR : Ok n R) (hW : Ok n W) (hk : 1 ≤ k) (hc : c + k ≤ b) :
    GenC Try.prog 18 [.obj m 0, .p (.sl [extP (c, k)])] ⟨mapB m f r w n (seg 0 b) R W, [], nx⟩ (.p (.bool true)) ⟨mapB m nx r w n (cutL (seg 0 b) (c, k)) R W, [], nx + 1⟩ := by
  have := hold18 m f r w nx n h hn (seg 0 b) R W (seg_ok hb) hR hW [((c : Int), (k : Int))] (by simp)
  have hB : holdB n (seg 0 b) [((c : Int), (k : Int))] = true := by rw [holdB_one hk (by omega), seg_has hk]; simp; omega
  rw [hB] at this
  simpa [toE] using this
theorem seg_commit (h : Ids m f r w nx) (hn : n ≤ 1000) {a b c : Nat} {R : List Ext} (hb : b ≤ n) (hca : c < a) (hab : a ≤ b) :
    GenC Try.prog 15 [.obj m 0] ⟨mapB m f r w n (seg a b) R (seg c a), [], nx⟩ (.agg true []) ⟨mapB m nx (nx + 1) (nx + 2) n (seg c b) [] [], [], nx + 3⟩ := by
  have := commit15 m f r w nx n h hn (seg a b) R (seg c a) (seg_ok hb) (seg_ok (by omega)) (fun s h1 h2 => by rw [seg_mem] at h1 h2; omega)
  have e : (seg c a).foldl putL (seg a b) = seg c b := by
    rw [seg_lt hca]
    have := seg_putL (c := c) (k := a - c) (b := b) (by omega) (by omega)
    rw [show c + (a - c) = a by omega] at this
    simpa using this
  rw [e] at this; exact this
theorem seg_commit0 (h : Ids m f r w nx) (hn : n ≤ 1000) {a b : Nat} {R : List Ext} (hb : b ≤ n) :
    GenC Try.prog 15 [.obj m 0] ⟨mapB m f r w n (seg a b) R [], [], nx⟩ (.agg true []) ⟨mapB m nx (nx + 1) (nx + 2) n (seg a b) [] [], [], nx + 3⟩ :=
  commit15 m f r w nx n h hn (seg a b) R [] (seg_ok hb) ok_nil (by simp)
theorem seg_abort (h : Ids m f r w nx) (hn : n ≤ 1000) {a b c : Nat} {W : List Ext} (hb : b ≤ n) (hca : c < a) (hab : a ≤ b) :
    GenC Try.prog 12 [.obj m 0] ⟨mapB m f r w n (seg a b) (seg c a) W, [], nx⟩ (.agg true []) ⟨mapB m nx (nx + 1) (nx + 2) n (seg c b) [] [], [], nx + 3⟩ := by
  have := abort12 m f r w nx n h hn (seg a b) (seg c a) W (seg_ok hb) (seg_ok (by omega)) (fun s h1 h2 => by rw [seg_mem] at h1 h2; omega)
  have e : (seg c a).foldl putL (seg a b) = seg c b := by
    rw [seg_lt hca]
    have := seg_putL (c := c) (k := a - c) (b := b) (by omega) (by omega)
    rw [show c + (a - c) = a by omega] at this
    simpa using this
  rw [e] at this; exact this
theorem seg_free (h : Ids m f r w nx) (hn : n ≤ 1000) {a b : Nat} {R W : List Ext} (hb : b ≤ n) :
    GenC Try.prog 10 [.obj m 0] ⟨mapB m f r w n (seg a b) R W, [], nx⟩ (.p (.int ((b - a : Nat) : Int))) ⟨mapB m f r w n (seg a b) R W, [], nx⟩ := by
  have := free10 m f r w nx n h (seg a b) R W ((seg_ok (a := a) hb).nrm hn)
  rwa [seg_sz] at this
end

set_option maxHeartbeats 8000000 in
set_option maxRecDepth 100000 in
theorem law5 (u v z : Int) : PureC Try.prog 5 [.int u, .int v, .int z] (.bool true) := by
  obtain ⟨p', p1, p2, p3⟩ := nn_val u 50 (by omega) (by omega)
  obtain ⟨q', q1, q2, q3⟩ := nn_val v 50 (by omega) (by omega)
  obtain ⟨k', k1, k2, k3⟩ := nn_val z 50 (by omega) (by omega)
  have p2 : IntKind.i64.wrap (u.tmod 50 + 50) = u.tmod 50 + 50 := p2
  have p3 : (u.tmod 50 + 50).tmod 50 = (p' : Int) := p3
  have q2 : IntKind.i64.wrap (v.tmod 50 + 50) = v.tmod 50 + 50 := q2
  have q3 : (v.tmod 50 + 50).tmod 50 = (q' : Int) := q3
  have k2 : IntKind.i64.wrap (z.tmod 50 + 50) = z.tmod 50 + 50 := k2
  have k3 : (z.tmod 50 + 50).tmod 50 = (k' : Int) := k3
  obtain ⟨p, hp⟩ : ∃ p, p = p' + 1 := ⟨_, rfl⟩
  obtain ⟨q, hq⟩ : ∃ q, q = q' + 1 := ⟨_, rfl⟩
  obtain ⟨k, hk⟩ : ∃ k, k = k' + 1 := ⟨_, rfl⟩
  have p4 : IntKind.i64.wrap (1 + (p' : Int)) = (p : Int) := by rw [wrap64_id (by omega) (by omega)]; omega
  have q4 : IntKind.i64.wrap (1 + (q' : Int)) = (q : Int) := by rw [wrap64_id (by omega) (by omega)]; omega
  have k4 : IntKind.i64.wrap (1 + (k' : Int)) = (k : Int) := by rw [wrap64_id (by omega) (by omega)]; omega
  have s00 : seg 0 0 = [] := rfl
  have s01 : seg 0 100 = [(0, 100)] := rfl
  have spp : seg p p = [] := seg_nil (Nat.le_refl _)
  have t1 : GenC Try.prog 9 [.obj 1 0, .p (.int p)] ⟨mapB 1 0 2 3 100 [(0, 100)] [] [], [], 4⟩ (.agg true [.p (extP (0, p)), .p (.bool true)]) ⟨mapB 1 4 5 3 100 (seg p 100) (seg 0 p) [], [], 6⟩ := by
    have := seg_take (m := 1) (f := 0) (r := 2) (w := 3) (nx := 4) (n := 100) (by constructor <;> omega) (by omega) (a := 0) (b := 100) (c := 0) (q := p) (by omega) (by omega) (by omega) (by omega) []
    rw [s00, s01, Nat.zero_add] at this; exact this
  have c2 := seg_commit0 (m := 1) (f := 4) (r := 5) (w := 3) (nx := 7) (n := 100) (by constructor <;> omega) (by omega) (a := p) (b := 100) (R := seg 0 p) (by omega)
  have t3 : GenC Try.prog 9 [.obj 1 0, .p (.int q)] ⟨mapB 1 7 8 9 100 (seg p 100) [] [], [], 10⟩ (.agg true [.p (extP (p, q)), .p (.bool true)]) ⟨mapB 1 10 11 9 100 (seg (p + q) 100) (seg p (p + q)) [], [], 12⟩ := by
    have := seg_take (m := 1) (f := 7) (r := 8) (w := 9) (nx := 10) (n := 100) (by constructor <;> omega) (by omega) (a := p) (b := 100) (c := p) (q := q) (by omega) (by omega) (by omega) (by omega) []
    rw [spp] at this; exact this
  have g4 : GenC Try.prog 16 [.obj 1 0, .p (.sl [extP (0, p)])] ⟨mapB 1 10 11 9 100 (seg (p + q) 100) (seg p (p + q)) [], [], 13⟩ (.p (.bool true)) ⟨mapB 1 10 11 13 100 (seg (p + q) 100) (seg p (p + q)) (seg 0 p), [], 14⟩ := by
    have := seg_give (m := 1) (f := 10) (r := 11) (w := 9) (nx := 13) (n := 100) (by constructor <;> omega) (by omega) (a := p + q) (b := 100) (c := 0) (k := p) (R := seg p (p + q)) (by omega) (seg_ok (by omega)) (by omega) (by omega) (by omega)
    rw [Nat.zero_add] at this; exact this
  have f5 := seg_free (m := 1) (f := 10) (r := 11) (w := 13) (nx := 14) (n := 100) (by constructor <;> omega) (by omega) (a := p + q) (b := 100) (R := seg p (p + q)) (W := seg 0 p) (by omega)
  refine pure_of_aw (ys := [_]) [] [(17, [(1, .w [1]), (3, .r 1), (8, .w [1]), (13, .r 1), (15, .w [1]), (19, .r 1), (21, .w [1])])] [(1, 6)] mixed Try.func5 rfl (by kernel_rfl) (by kernel_rfl) (by simp [Try.ntmps5]) rfl ?_
  simp
  refine pcall_of awake7 (by simp) ?_
  simp
  refine gcall_of0 (new8 0 100 (by omega) (by omega)) (by simp) (by simp [sub1]) trivial rfl ?_
  simp [p2, p3, p4]
  refine gcall_of0 t1 (by simp) (by simp [sub1, mapB, mapO, mapX]) trivial rfl ?_
  simp [mapB, mapO, mapX]
  refine gcall_of0 c2 (by simp) (by simp [sub1, mapB, mapO, mapX]) trivial rfl ?_
  simp [mapB, mapO, mapX, q2, q3, q4]
  refine gcall_of0 t3 (by simp) (by simp [sub1, mapB, mapO, mapX]) trivial rfl ?_
  simp [mapB, mapO, mapX]
  refine gcall_of0 g4 (by simp) (by simp [sub1, mapB, mapO, mapX]) trivial rfl ?_
  simp [mapB, mapO, mapX]
  refine gcall_of0 f5 (by simp) (by simp [sub1, mapB, mapO, mapX]) trivial rfl ?_
  simp [mapB, mapO, mapX, k2, k3, k4]
  by_cases c : k ≤ 100 - (p + q)
  · have t6 := seg_take (m := 1) (f := 10) (r := 11) (w := 13) (nx := 14) (n := 100) (by constructor <;> omega) (by omega) (a := p + q) (b := 100) (c := p) (q := k) (by omega) (by omega) (by omega) (by omega) (seg 0 p)
    refine gcall_of0 t6 (by simp) (by simp [sub1, mapB, mapO, mapX]) trivial rfl ?_
    have d0 : IntKind.i64.wrap ((p : Int) + (q : Int)) = (p : Int) + (q : Int) := wrap64_id (by omega) (by omega)
    have c' : k ≤ 100 - (p + q) := c
    simp [mapB, mapO, mapX, d0, c']
    have h7 := seg_holdn (m := 1) (f := 14) (r := 15) (w := 13) (nx := 17) (n := 100) (by constructor <;> omega) (by omega) (a := p + q + k) (b := 100) (c := 0) (k := p) (R := seg p (p + q + k)) (W := seg 0 p) (by omega) (seg_ok (by omega)) (seg_ok (by omega)) (by omega) (by omega) (by omega)
    have a8 := seg_abort (m := 1) (f := 17) (r := 15) (w := 13) (nx := 18) (n := 100) (by constructor <;> omega) (by omega) (a := p + q + k) (b := 100) (c := p) (W := seg 0 p) (by omega) (by omega) (by omega)
    have f9 := seg_free (m := 1) (f := 18) (r := 19) (w := 20) (nx := 21) (n := 100) (by constructor <;> omega) (by omega) (a := p) (b := 100) (R := []) (W := []) (by omega)
    have w9 : GenC Try.prog 17 [.obj 1 0] ⟨mapB 1 18 19 20 100 (seg p 100) [] [], [], 21⟩ (.p (.int 0)) ⟨mapB 1 18 19 20 100 (seg p 100) [] [], [], 21⟩ := waiting17 1 18 19 20 21 100 (by constructor <;> omega) (seg p 100) [] [] ((ok_nil (n := 100)).nrm (by omega))
    have h10 := seg_holdn (m := 1) (f := 18) (r := 19) (w := 20) (nx := 21) (n := 100) (by constructor <;> omega) (by omega) (a := p) (b := 100) (c := 0) (k := p) (R := []) (W := []) (by omega) ok_nil ok_nil (by omega) (by omega) (by omega)
    have g11 := seg_give (m := 1) (f := 21) (r := 19) (w := 20) (nx := 22) (n := 100) (by constructor <;> omega) (by omega) (a := p) (b := 100) (c := 0) (k := p) (R := []) (by omega) ok_nil (by omega) (by omega) (by omega)
    rw [Nat.zero_add] at g11
    have c12 := seg_commit (m := 1) (f := 21) (r := 19) (w := 22) (nx := 23) (n := 100) (by constructor <;> omega) (by omega) (a := p) (b := 100) (c := 0) (R := []) (by omega) (by omega) (by omega)
    have f13 := seg_free (m := 1) (f := 23) (r := 24) (w := 25) (nx := 26) (n := 100) (by constructor <;> omega) (by omega) (a := 0) (b := 100) (R := []) (W := []) (by omega)
    have h14 := seg_hold (m := 1) (f := 23) (r := 24) (w := 25) (nx := 26) (n := 100) (by constructor <;> omega) (by omega) (b := 100) (c := 0) (k := p) (R := []) (W := []) (by omega) ok_nil ok_nil (by omega) (by omega)
    have d1 : IntKind.i64.wrap (100 - (p : Int)) = ((100 - p : Nat) : Int) := by rw [wrap64_id (by omega) (by omega)]; omega
    refine gcall_of0 h7 (by simp) (by simp [sub1, mapB, mapO, mapX]) trivial rfl ?_
    simp [mapB, mapO, mapX]
    refine gcall_of0 a8 (by simp) (by simp [sub1, mapB, mapO, mapX]) trivial rfl ?_
    simp [mapB, mapO, mapX]
    refine gcall_of0 f9 (by simp) (by simp [sub1, mapB, mapO, mapX]) trivial rfl ?_
    simp [mapB, mapO, mapX, d1]
    refine gcall_of0 w9 (by simp) (by simp [sub1, mapB, mapO, mapX]) trivial rfl ?_
    simp [mapB, mapO, mapX]
    refine gcall_of0 h10 (by simp) (by simp [sub1, mapB, mapO, mapX]) trivial rfl ?_
    simp [mapB, mapO, mapX]
    refine gcall_of0 g11 (by simp) (by simp [sub1, mapB, mapO, mapX]) trivial rfl ?_
    simp [mapB, mapO, mapX]
    refine gcall_of0 c12 (by simp) (by simp [sub1, mapB, mapO, mapX]) trivial rfl ?_
    simp [mapB, mapO, mapX]
    refine gcall_of0 f13 (by simp) (by simp [sub1, mapB, mapO, mapX]) trivial rfl ?_
    simp [mapB, mapO, mapX]
    refine gcall_of0 h14 (by simp) (by simp [sub1, mapB, mapO, mapX]) trivial rfl ?_
    simp [mapB, mapO, mapX, Try.results5]
  · have t6 := seg_not (m := 1) (f := 10) (r := 11) (w := 13) (nx := 14) (n := 100) (by constructor <;> omega) (by omega) (a := p + q) (b := 100) (q := k) (by omega) (by omega) (seg p (p + q)) (seg 0 p)
    refine gcall_of0 t6 (by simp) (by simp [sub1, mapB, mapO, mapX]) trivial rfl ?_
    simp [mapB, mapO, mapX, c]
    have h7 := seg_holdn (m := 1) (f := 10) (r := 11) (w := 13) (nx := 15) (n := 100) (by constructor <;> omega) (by omega) (a := p + q) (b := 100) (c := 0) (k := p) (R := seg p (p + q)) (W := seg 0 p) (by omega) (seg_ok (by omega)) (seg_ok (by omega)) (by omega) (by omega) (by omega)
    have a8 := seg_abort (m := 1) (f := 15) (r := 11) (w := 13) (nx := 16) (n := 100) (by constructor <;> omega) (by omega) (a := p + q) (b := 100) (c := p) (W := seg 0 p) (by omega) (by omega) (by omega)
    have f9 := seg_free (m := 1) (f := 16) (r := 17) (w := 18) (nx := 19) (n := 100) (by constructor <;> omega) (by omega) (a := p) (b := 100) (R := []) (W := []) (by omega)
    have w9 : GenC Try.prog 17 [.obj 1 0] ⟨mapB 1 16 17 18 100 (seg p 100) [] [], [], 19⟩ (.p (.int 0)) ⟨mapB 1 16 17 18 100 (seg p 100) [] [], [], 19⟩ := waiting17 1 16 17 18 19 100 (by constructor <;> omega) (seg p 100) [] [] ((ok_nil (n := 100)).nrm (by omega))
    have h10 := seg_holdn (m := 1) (f := 16) (r := 17) (w := 18) (nx := 19) (n := 100) (by constructor <;> omega) (by omega) (a := p) (b := 100) (c := 0) (k := p) (R := []) (W := []) (by omega) ok_nil ok_nil (by omega) (by omega) (by omega)
    have g11 := seg_give (m := 1) (f := 19) (r := 17) (w := 18) (nx := 20) (n := 100) (by constructor <;> omega) (by omega) (a := p) (b := 100) (c := 0) (k := p) (R := []) (by omega) ok_nil (by omega) (by omega) (by omega)
    rw [Nat.zero_add] at g11
    have c12 := seg_commit (m := 1) (f := 19) (r := 17) (w := 20) (nx := 21) (n := 100) (by constructor <;> omega) (by omega) (a := p) (b := 100) (c := 0) (R := []) (by omega) (by omega) (by omega)
    have f13 := seg_free (m := 1) (f := 21) (r := 22) (w := 23) (nx := 24) (n := 100) (by constructor <;> omega) (by omega) (a := 0) (b := 100) (R := []) (W := []) (by omega)
    have h14 := seg_hold (m := 1) (f := 21) (r := 22) (w := 23) (nx := 24) (n := 100) (by constructor <;> omega) (by omega) (b := 100) (c := 0) (k := p) (R := []) (W := []) (by omega) ok_nil ok_nil (by omega) (by omega)
    have d1 : IntKind.i64.wrap (100 - (p : Int)) = ((100 - p : Nat) : Int) := by rw [wrap64_id (by omega) (by omega)]; omega
    refine gcall_of0 h7 (by simp) (by simp [sub1, mapB, mapO, mapX]) trivial rfl ?_
    simp [mapB, mapO, mapX]
    refine gcall_of0 a8 (by simp) (by simp [sub1, mapB, mapO, mapX]) trivial rfl ?_
    simp [mapB, mapO, mapX]
    refine gcall_of0 f9 (by simp) (by simp [sub1, mapB, mapO, mapX]) trivial rfl ?_
    simp [mapB, mapO, mapX, d1]
    refine gcall_of0 w9 (by simp) (by simp [sub1, mapB, mapO, mapX]) trivial rfl ?_
    simp [mapB, mapO, mapX]
    refine gcall_of0 h10 (by simp) (by simp [sub1, mapB, mapO, mapX]) trivial rfl ?_
    simp [mapB, mapO, mapX]
    refine gcall_of0 g11 (by simp) (by simp [sub1, mapB, mapO, mapX]) trivial rfl ?_
    simp [mapB, mapO, mapX]
    refine gcall_of0 c12 (by simp) (by simp [sub1, mapB, mapO, mapX]) trivial rfl ?_
    simp [mapB, mapO, mapX]
    refine gcall_of0 f13 (by simp) (by simp [sub1, mapB, mapO, mapX]) trivial rfl ?_
    simp [mapB, mapO, mapX]
    refine gcall_of0 h14 (by simp) (by simp [sub1, mapB, mapO, mapX]) trivial rfl ?_
    simp [mapB, mapO, mapX, Try.results5]
end Go.Av

/-! part P16w -/
namespace Go.Av
open Go.Proofs
theorem law5n {x y z : PC} (hx : intS x) (hy : intS y) (hz : intS z) : PureC Try.prog 5 [x, y, z] (.bool true) := by
  obtain ⟨a, rfl, _⟩ := hx
  obtain ⟨b, rfl, _⟩ := hy
  obtain ⟨c, rfl, _⟩ := hz
  exact law5 a b c
end Go.Av
