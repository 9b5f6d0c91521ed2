/- SpaceBack computes true of any lists. -/
import Derived.Test.YtbffdmhplfclkaaNe
set_option linter.all false
/-! part P16z -/
namespace Go.Av
open Go.Proofs

section
variable {m f r w nx n : Nat}
theorem give_one (h : Ids m f r w nx) (hn : n ≤ 1000) {F R W : List Ext} (hF : Ok n F) (hR : Ok n R) (hW : Ok n W) {e : Ext} (h1 : 1 ≤ e.2) (h2 : e.1 + e.2 ≤ n) (hmF : mtB F e = false) (hmW : mtB W e = false) :
    GenC Try.prog 16 [.obj m 0, .p (.sl [extP e])] ⟨mapB m f r w n F R W, [], nx⟩ (.p (.bool true)) ⟨mapB m f r nx n F R (putL W e), [], nx + 1⟩ := by
  obtain ⟨c, k⟩ := e
  have := give16 m f r w nx n h hn F R W hF hR hW [((c : Int), (k : Int))] (by simp)
  rw [giveB_one h1 h2 hmF hmW] at this
  simpa [toE] using this
theorem give_no (h : Ids m f r w nx) (hn : n ≤ 1000) {F R W : List Ext} (hF : Ok n F) (hR : Ok n R) (hW : Ok n W) {e : Ext} (hm : mtB W e = true) :
    GenC Try.prog 16 [.obj m 0, .p (.sl [extP e])] ⟨mapB m f r w n F R W, [], nx⟩ (.p (.bool false)) ⟨mapB m f r nx n F R W, [], nx + 1⟩ := by
  obtain ⟨c, k⟩ := e
  have := give16 m f r w nx n h hn F R W hF hR hW [((c : Int), (k : Int))] (by simp)
  have hB : giveB n F W [((c : Int), (k : Int))] = false := by unfold giveB; simp [toE, hm]
  rw [hB] at this
  simpa using this
theorem seg_pieces (h : Ids m f r w nx) (hn : n ≤ 1000) {x b K : Nat} (hb : b ≤ n) (hK : 1 ≤ K) (hxK : x + K ≤ b) (W : List Ext) :
    GenC Try.prog 11 [.obj m 0, .p (.int K), .p (.int 99)] ⟨mapB m f r w n (seg x b) (seg 0 x) W, [], nx⟩ (.agg true [.p (setP [(x, K)]), .p (.bool true)])
      ⟨mapB m nx (nx + 1) w n (seg (x + K) b) (seg 0 (x + K)) W, [], nx + 2⟩ := by
  have hp : pcsL (seg x b) K = [(x, K)] := by
    rw [seg_lt (by omega)]
    have k0 : K ≠ 0 := by omega
    simp [pcsL, k0]; omega
  have hB : piecesB (seg x b) K 99 = true := by simp [piecesB, hp, seg_sz]; omega
  have := pieces11 m f r w nx n h hn (seg x b) (seg 0 x) W (seg_ok hb) (seg_ok (by omega)) (fun s h1 h2 => by rw [seg_mem] at h1 h2; omega) K 99
  rw [hB] at this
  simp only [if_true, Int.toNat_natCast, hp, List.foldl_cons, List.foldl_nil] at this
  rw [seg_cut hK hxK, seg_putR hK (Nat.zero_le x)] at this
  exact this
theorem seg_piecesn (h : Ids m f r w nx) (hn : n ≤ 1000) {x b K : Nat} (hb : b ≤ n) (hx : x ≤ b) (hxK : b < x + K) (W : List Ext) :
    GenC Try.prog 11 [.obj m 0, .p (.int K), .p (.int 99)] ⟨mapB m f r w n (seg x b) (seg 0 x) W, [], nx⟩ (.agg true [.p (setP []), .p (.bool false)])
      ⟨mapB m nx (nx + 1) w n (seg x b) (seg 0 x) W, [], nx + 2⟩ := by
  have hB : piecesB (seg x b) K 99 = false := by
    have : ¬ ((K : Int) ≤ (szL (seg x b) : Int)) := by rw [seg_sz]; omega
    simp [piecesB]; intro h1 h2; rw [seg_sz] at h2; omega
  have := pieces11 m f r w nx n h hn (seg x b) (seg 0 x) W (seg_ok hb) (seg_ok (by omega)) (fun s h1 h2 => by rw [seg_mem] at h1 h2; omega) K 99
  rw [hB] at this
  exact this
end

/-- what was taken, all of it from the front -/
structure Alls (x : Nat) (l : List Ext) : Prop where
  pos : ∀ e ∈ l, 1 ≤ e.2
  dj : Dj l
  cov : ∀ s, mem l s ↔ s < x
  sz : szL l = x
theorem szL_append (a b : List Ext) : szL (a ++ b) = szL a + szL b := by simp [szL]
theorem Alls.snoc {x K : Nat} {l : List Ext} (h : Alls x l) (hK : 1 ≤ K) : Alls (x + K) (l ++ [(x, K)]) where
  pos := fun e he => by rcases List.mem_append.1 he with he | he; exact h.pos e he; simp at he; subst he; exact hK
  dj := List.pairwise_append.2 ⟨h.dj, by simp, fun a ha b hb s hs => by
    simp at hb; subst hb
    have := (h.cov s).1 ⟨a, ha, hs⟩
    unfold inE; simp only; omega⟩
  cov := fun s => by rw [mem_append, mem_cons, h.cov]; simp [inE]; omega
  sz := by rw [szL_append, h.sz]; simp [szL]

/-- what is left, what waits, what is free: every sector once -/
structure Back (all F W : List Ext) : Prop where
  okF : Ok 500 F
  okW : Ok 500 W
  pos : ∀ e ∈ all, 1 ≤ e.2
  dj : Dj all
  fw : ∀ s, mem F s → ¬ mem W s
  af : ∀ s, mem all s → ¬ mem F s ∧ ¬ mem W s
  cov : ∀ s, s < 500 ↔ mem F s ∨ mem W s ∨ mem all s

theorem Back.top {all F W : List Ext} (h : Back all F W) : ∀ e ∈ all, e.1 + e.2 ≤ 500 := by
  intro e he
  have := h.pos e he
  have := (h.cov (e.1 + e.2 - 1)).2 (.inr (.inr ⟨e, he, by unfold inE; omega⟩))
  omega
theorem Back.mt {all F W : List Ext} (h : Back all F W) {e : Ext} (he : e ∈ all) : mtB F e = false ∧ mtB W e = false := by
  have p := h.pos e he
  constructor
  · cases hb : mtB F e with
    | false => rfl
    | true => obtain ⟨s, h1, h2⟩ := (mt_iff h.okF.nr e p).1 hb; exact absurd h2 (h.af s ⟨e, he, h1⟩).1
  · cases hb : mtB W e with
    | false => rfl
    | true => obtain ⟨s, h1, h2⟩ := (mt_iff h.okW.nr e p).1 hb; exact absurd h2 (h.af s ⟨e, he, h1⟩).2
theorem mem_split {l : List Ext} {k : Nat} (hk : k < l.length) {s : Nat} : mem l s ↔ inE l[k] s ∨ mem (l.take k ++ l.drop (k + 1)) s := by
  conv => lhs; rw [← List.take_append_drop k l, List.drop_eq_getElem_cons hk]
  rw [mem_append, mem_cons, mem_append]
  constructor
  · rintro (h | h | h)
    · exact .inr (.inl h)
    · exact .inl h
    · exact .inr (.inr h)
  · rintro (h | h | h)
    · exact .inr (.inl h)
    · exact .inl h
    · exact .inr (.inr h)
theorem Back.give {all F W : List Ext} (h : Back all F W) {k : Nat} (hk : k < all.length) : Back (all.take k ++ all.drop (k + 1)) F (putL W all[k]) := by
  have hm := h.mt (List.getElem_mem hk)
  have hp := h.pos _ (List.getElem_mem hk)
  obtain ⟨g1, g2⟩ := h.okW.put hp hm.2 (h.top _ (List.getElem_mem hk))
  have sub : ∀ e ∈ all.take k ++ all.drop (k + 1), e ∈ all := fun e he => by rcases List.mem_append.1 he with he | he; exact List.mem_of_mem_take he; exact List.mem_of_mem_drop he
  have hsp : all.take k ++ all[k] :: all.drop (k + 1) = all := by rw [← List.drop_eq_getElem_cons hk, List.take_append_drop]
  have hd := h.dj
  rw [← hsp] at hd
  obtain ⟨d1, d2, d3⟩ := List.pairwise_append.1 hd
  obtain ⟨d4, d5⟩ := List.pairwise_cons.1 d2
  have hkin : ∀ s, inE all[k] s → mem all s := fun s hs => ⟨_, List.getElem_mem hk, hs⟩
  refine ⟨h.okF, g1, fun e he => h.pos e (sub e he), List.pairwise_append.2 ⟨d1, d5, fun a ha b hb => d3 a ha b (List.mem_cons_of_mem _ hb)⟩, fun s hs => ?_, fun s hs => ?_, fun s => ?_⟩
  · rw [g2]; rintro (hw | hw)
    · exact h.fw s hs hw
    · exact (h.af s (hkin s hw)).1 hs
  · have ha := (mem_split hk).2 (.inr hs)
    refine ⟨(h.af s ha).1, ?_⟩
    rw [g2]; rintro (hw | hw)
    · exact (h.af s ha).2 hw
    · obtain ⟨e, he, hes⟩ := hs
      rcases List.mem_append.1 he with he | he
      · exact d3 e he _ List.mem_cons_self s hes hw
      · exact d4 e he s hw hes
  · rw [h.cov s, g2, mem_split hk]
    constructor
    · rintro (a | a | a | a)
      · exact .inl a
      · exact .inr (.inl (.inl a))
      · exact .inr (.inl (.inr a))
      · exact .inr (.inr a)
    · rintro (a | (a | a) | a)
      · exact .inl a
      · exact .inr (.inl a)
      · exact .inr (.inr (.inl a))
      · exact .inr (.inr (.inr a))
theorem Back.commit {all F W : List Ext} (h : Back all F W) : Back all (W.foldl putL F) [] := by
  obtain ⟨g1, g2, _⟩ := puts_law h.okF (es := W) (fun e he => ⟨h.okW.nr.pos e he, h.okW.top e he, fun s hs hm => h.fw s hm ⟨e, he, hs⟩⟩) (nr_dj h.okW.nr) W.length (Nat.le_refl _)
  rw [List.take_length] at g1 g2
  have g3 : ∀ s, mem (W.foldl putL F) s ↔ mem F s ∨ mem W s := g2
  refine ⟨g1, ok_nil, h.pos, h.dj, fun s _ => mem_nil, fun s hs => ⟨?_, mem_nil⟩, fun s => ?_⟩
  · rw [g3]; rintro (a | a)
    · exact (h.af s hs).1 a
    · exact (h.af s hs).2 a
  · rw [h.cov, g3]; simp only [mem_nil, false_or]
    constructor
    · rintro (a | a | a)
      · exact .inl (.inl a)
      · exact .inl (.inr a)
      · exact .inr a
    · rintro ((a | a) | a)
      · exact .inl a
      · exact .inr (.inl a)
      · exact .inr (.inr a)
theorem Back.all {F : List Ext} (h : Back [] F []) : F = seg 0 500 :=
  nr_uniq h.okF.nr (seg_ok (Nat.le_refl 500)).nr fun s => by
    rw [seg_mem]; have := h.cov s; simp at this; rw [← this]; omega
theorem Alls.back {x : Nat} {l : List Ext} (h : Alls x l) (hx : x ≤ 500) : Back l (seg x 500) [] :=
  ⟨seg_ok (Nat.le_refl _), ok_nil, h.pos, h.dj, fun s _ => mem_nil, fun s hs => ⟨by rw [seg_mem]; have := (h.cov s).1 hs; omega, mem_nil⟩, fun s => by rw [seg_mem, h.cov]; simp; omega⟩
end Go.Av

/-! part P16za -/
namespace Go.Av
open Go.Proofs

theorem back_abort {x : Nat} (hx : x ≤ 500) {m f r w nx : Nat} (h : Ids m f r w nx) (W : List Ext) :
    GenC Try.prog 12 [.obj m 0] ⟨mapB m f r w 500 (seg x 500) (seg 0 x) W, [], nx⟩ (.agg true []) ⟨mapB m nx (nx + 1) (nx + 2) 500 (seg 0 500) [] [], [], nx + 3⟩ := by
  have := abort12 m f r w nx 500 h (by omega) (seg x 500) (seg 0 x) W (seg_ok (Nat.le_refl _)) (seg_ok hx) (fun s h1 h2 => by rw [seg_mem] at h1 h2; omega)
  have e : (seg 0 x).foldl putL (seg x 500) = seg 0 500 := by
    by_cases c : x = 0
    · subst c; rfl
    · rw [seg_lt (a := 0) (b := x) (by omega)]
      have := seg_putL (c := 0) (k := x) (b := 500) (by omega) (by omega)
      simpa using this
  rw [e] at this; exact this

set_option maxHeartbeats 8000000 in
set_option maxRecDepth 100000 in
theorem law4 (ns order : List Int) (abort : Bool) : PureC Try.prog 4 [.sl (ns.map PC.int), .sl (order.map PC.int), .bool abort] (.bool true) := by
  refine pure_of_aw (ys := [_]) [] [] [] mixed Try.func4 rfl (by kernel_rfl) (by kernel_rfl) (by simp [Try.ntmps4]) rfl ?_
  simp
  refine pcall_of awake7 (by simp) ?_
  by_cases c : 30 < ns.length
  · have c' : decide ((30 : Int) < ns.length) = true := by simp; omega
    simp [c']
    refine pcall_of awake7 (by simp) ?_
    simp [Try.results4]
  have c' : decide ((30 : Int) < ns.length) = false := by simp; omega
  by_cases d : 60 < order.length
  · have d' : decide ((60 : Int) < order.length) = true := by simp; omega
    simp [c', d']
    refine pcall_of awake7 (by simp) ?_
    simp [Try.results4]
  have d' : decide ((60 : Int) < order.length) = false := by simp; omega
  simp [c', d']
  refine gcall_of0 (new8 0 500 (by omega) (by omega)) (by simp) (by simp [sub1]) trivial rfl ?_
  simp
  refine aw_loop (fun y : Nat × Nat × List Ext => y.1 ≤ ns.length ∧ y.2.1 ≤ 500 ∧ Alls y.2.1 y.2.2 ∧ y.2.2.length ≤ y.1)
    (fun y => [(0, .p (.sl (ns.map PC.int))), (1, .p (.sl (order.map PC.int))), (2, .p (.bool abort)), (7, .obj 1 0), (9, .own 4 (y.2.2.map extP)), (10, .p (.int y.2.1)), (11, .p (.int y.1))])
    (fun y => ⟨mapB 1 0 2 3 500 (seg y.2.1 500) (seg 0 y.2.1) [], [(4, 29, 2)], 5⟩) (fun y => ns.length - y.1) (0, 0, []) ⟨by simp, by simp, ⟨by simp, by simp [Dj], by simp, rfl⟩, by simp⟩ _
    (le_own 9 29 2 [] (.inr ⟨rfl, by simp⟩)) (leN_id (by simp [mapB, mapO, mapX, seg])) ?_
  rintro ⟨i, x, all⟩ ⟨h1, h2, h3, h4⟩
  simp only at h1 h2 h3 h4
  by_cases c1 : i < ns.length
  · obtain ⟨k', k1, k2, k3⟩ := nn_val ns[i] 40 (by omega) (by omega)
    have k2 : IntKind.i64.wrap (ns[i].tmod 40 + 40) = ns[i].tmod 40 + 40 := k2
    have k3 : (ns[i].tmod 40 + 40).tmod 40 = (k' : Int) := k3
    obtain ⟨k, hk⟩ : ∃ k, k = k' + 1 := ⟨_, rfl⟩
    have k4 : IntKind.i64.wrap (1 + (k' : Int)) = (k : Int) := by rw [wrap64_id (by omega) (by omega)]; omega
    have ewid : ∀ (y : PC) (u v : Nat), (u, v) ∈ all → extP (u, v) = y → y.width = 2 := fun y u v _ e => by subst e; rfl
    simp [c1, k2, k3, k4]
    by_cases c2 : x + k ≤ 500
    · have hp := seg_pieces (m := 1) (f := 0) (r := 2) (w := 3) (nx := 5) (n := 500) (by constructor <;> omega) (by omega) (x := x) (b := 500) (K := k) (by omega) (by omega) c2 []
      refine gcall_of0 hp (by simp) (by simp [sub1, mapB, mapO, mapX]) trivial rfl ?_
      simp [mapB, mapO, mapX]
      refine ⟨ewid, by omega, by omega, ?_⟩
      refine aw_loop (fun j : Nat => j ≤ 1) (fun j => [(0, .p (.sl (ns.map PC.int))), (1, .p (.sl (order.map PC.int))), (2, .p (.bool abort)), (7, .obj 1 0), (9, .own 7 ((all ++ [(x, k)]).map extP)), (10, .p (.int ((x + if j = 0 then 0 else k : Nat) : Int))), (11, .p (.int i)), (12, .p (setP [(x, k)])), (14, .p (.int j))])
        (fun j => ⟨mapB 1 5 6 3 500 (seg (x + k) 500) (seg 0 (x + k)) [], [(7, 29, 2)], 8⟩) (fun j => 1 - j) 0 (by simp) _ (AS.le_refl _ _) (leN_id (by simp [mapB, mapO, mapX])) ?_
      intro j hj
      by_cases j0 : j = 0
      · subst j0
        have w : IntKind.i64.wrap ((x : Int) + (k : Int)) = (x : Int) + (k : Int) := wrap64_id (by omega) (by omega)
        have w1 : IntKind.i64.wrap 1 = 1 := rfl
        simp [w]
        refine ⟨1, by omega, by omega, leN_id ?_⟩
        simp [mapB, mapO, mapX, w1]
      · have j1 : j = 1 := by omega
        subst j1
        simp
        refine ⟨i + 1, x + k, all ++ [(x, k)], ⟨by omega, by omega, h3.snoc (by omega), by simp; omega⟩, by omega, leN_of [(0, 5), (2, 6), (4, 7)] ?_⟩
        simp [mapB, mapO, mapX, wrap64_id (n := (i : Int) + 1) (by omega) (by omega)]
    · have hp := seg_piecesn (m := 1) (f := 0) (r := 2) (w := 3) (nx := 5) (n := 500) (by constructor <;> omega) (by omega) (x := x) (b := 500) (K := k) (by omega) h2 (by omega) []
      refine gcall_of0 hp (by simp) (by simp [sub1, mapB, mapO, mapX]) trivial rfl ?_
      simp [mapB, mapO, mapX]
      refine aw_loop (fun j : Nat => j = 0) (fun j => [(0, .p (.sl (ns.map PC.int))), (1, .p (.sl (order.map PC.int))), (2, .p (.bool abort)), (7, .obj 1 0), (9, .own 4 (all.map extP)), (10, .p (.int x)), (11, .p (.int i)), (12, .p (setP [])), (14, .p (.int 0))])
        (fun j => ⟨mapB 1 5 6 3 500 (seg x 500) (seg 0 x) [], [(4, 29, 2)], 7⟩) (fun j => 1 - j) 0 rfl _ (AS.le_refl _ _) (leN_id (by simp [mapB, mapO, mapX])) ?_
      rintro j rfl
      simp
      refine ⟨i + 1, x, all, ⟨by omega, by omega, h3, by omega⟩, by omega, leN_of [(0, 5), (2, 6)] ?_⟩
      simp [mapB, mapO, mapX, wrap64_id (n := (i : Int) + 1) (by omega) (by omega)]
  · have e : i = ns.length := by omega
    subst e
    have w : IntKind.i64.wrap (500 - (x : Int)) = ((500 - x : Nat) : Int) := by rw [wrap64_id (by omega) (by omega)]; omega
    have hf := seg_free (m := 1) (f := 0) (r := 2) (w := 3) (nx := 5) (n := 500) (by constructor <;> omega) (by omega) (a := x) (b := 500) (R := seg 0 x) (W := []) (by omega)
    simp
    refine gcall_of0 hf (by simp) (by simp [sub1, mapB, mapO, mapX]) trivial rfl ?_
    have s500 : PureC Try.prog 13 [setP [(0, 500)], .sl [.agg false [.int 0, .int 500]]] (.bool true) := same13 [(0, 500)] [(0, 500)] (by decide) (by decide)
    have e500 : seg 0 500 = [(0, 500)] := rfl
    cases abort with
    | true =>
      have ha := back_abort h2 (m := 1) (f := 0) (r := 2) (w := 3) (nx := 5) (by constructor <;> omega) []
      have hf2 := seg_free (m := 1) (f := 5) (r := 6) (w := 7) (nx := 8) (n := 500) (by constructor <;> omega) (by omega) (a := 0) (b := 500) (R := []) (W := []) (by omega)
      have hr2 := runs14 1 5 6 7 8 500 (by constructor <;> omega) (seg 0 500) [] [] (by decide)
      rw [e500] at ha hf2 hr2
      simp [mapB, mapO, mapX, w]
      refine gcall_of0 ha (by simp) (by simp [sub1, mapB, mapO, mapX]) trivial rfl ?_
      simp [mapB, mapO, mapX]
      refine gcall_of0 hf2 (by simp) (by simp [sub1, mapB, mapO, mapX]) trivial rfl ?_
      simp [mapB, mapO, mapX]
      refine gcall_of0 hr2 (by simp) (by simp [sub1, mapB, mapO, mapX]) trivial rfl ?_
      simp [mapB, mapO, mapX]
      refine bcall_of0 s500 ⟨bor_set (by simp) rfl, by simp [borF], trivial⟩ rfl ?_
      simp [Try.results4]
    | false =>
      have hc := seg_commit0 (m := 1) (f := 0) (r := 2) (w := 3) (nx := 5) (n := 500) (by constructor <;> omega) (by omega) (a := x) (b := 500) (R := seg 0 x) (by omega)
      simp [mapB, mapO, mapX, w]
      refine gcall_of0 hc (by simp) (by simp [sub1, mapB, mapO, mapX]) trivial rfl ?_
      simp [mapB, mapO, mapX]
      have hB := h3.back h2
      refine aw_loop (fun y : Nat × List Ext × List Ext × List Ext => Back y.2.1 y.2.2.1 y.2.2.2 ∧ y.2.1.length ≤ 30 ∧ y.1 + y.2.1.length ≤ 30)
        (fun y => [(1, .p (.sl (order.map PC.int))), (7, .obj 1 0), (9, .own 4 (y.2.1.map extP)), (15, .p (.int y.1))])
        (fun y => ⟨mapB 1 0 2 3 500 y.2.2.1 [] y.2.2.2, [(4, 29, 2)], 5⟩) (fun y => y.2.1.length) (0, all, seg x 500, []) ⟨hB, by simp only; omega, by simp only; omega⟩ _ (AS.le_refl _ _)
        (leN_of [(0, 5), (2, 6), (3, 7)] (by simp [mapB, mapO, mapX])) ?_
      rintro ⟨i, l, F, W⟩ ⟨g1, g2, g3⟩
      simp only at g1 g2 g3
      rcases Nat.eq_zero_or_pos l.length with l0 | l0
      · have : l = [] := List.eq_nil_of_length_eq_zero l0
        subst this
        have gc := g1.commit
        have hF2 := gc.all
        have hc2 := commit15 1 0 2 3 5 500 (by constructor <;> omega) (by omega) F [] W g1.okF g1.okW g1.fw
        rw [hF2] at hc2
        have hf2 := seg_free (m := 1) (f := 5) (r := 6) (w := 7) (nx := 8) (n := 500) (by constructor <;> omega) (by omega) (a := 0) (b := 500) (R := []) (W := []) (by omega)
        have hw2 : GenC Try.prog 17 [.obj 1 0] ⟨mapB 1 5 6 7 500 (seg 0 500) [] [], [], 8⟩ (.p (.int 0)) ⟨mapB 1 5 6 7 500 (seg 0 500) [] [], [], 8⟩ := waiting17 1 5 6 7 8 500 (by constructor <;> omega) (seg 0 500) [] [] ((ok_nil (n := 10)).nrm (by omega))
        have hr2 := runs14 1 5 6 7 8 500 (by constructor <;> omega) (seg 0 500) [] [] (by decide)
        rw [e500] at hc2 hf2 hr2 hw2
        simp
        refine gcall_of0 hc2 (by simp) (by simp [sub1, mapB, mapO, mapX]) trivial rfl ?_
        simp [mapB, mapO, mapX]
        refine gcall_of0 hf2 (by simp) (by simp [sub1, mapB, mapO, mapX]) trivial rfl ?_
        simp [mapB, mapO, mapX]
        refine gcall_of0 hw2 (by simp) (by simp [sub1, mapB, mapO, mapX]) trivial rfl ?_
        simp [mapB, mapO, mapX]
        refine gcall_of0 hr2 (by simp) (by simp [sub1, mapB, mapO, mapX]) trivial rfl ?_
        simp [mapB, mapO, mapX]
        refine bcall_of0 s500 ⟨bor_set (by simp) rfl, by simp [borF], trivial⟩ rfl ?_
        simp [Try.results4]
      · have ewid : ∀ (y : PC) (u v : Nat), (u, v) ∈ l → extP (u, v) = y → y.width = 2 := fun y u v _ e => by subst e; rfl
        have ewid' : ∀ (y : PC) (u v : Nat), (u, v) ∈ l → extP (u, v) = y → 2 = y.width := fun y u v _ e => by subst e; rfl
        have rest : ∀ k, k < l.length → True := fun _ _ => trivial
        have wi : IntKind.i64.wrap ((i : Int) + 1) = (i : Int) + 1 := wrap64_id (by omega) (by omega)
        have hlz : (0 : Int) < (l.length : Int) := by omega
        by_cases ci : i < order.length
        · obtain ⟨k, q1, q2, q3⟩ := nn_val order[i] l.length (by omega) (by omega)
          have hne : l ≠ [] := fun e => by subst e; simp at l0
          have lnz : l.length ≠ 0 := by omega
          simp [l0, ci, q2, q3, q1, hne, lnz]
          have hmt := g1.mt (List.getElem_mem (q1 : k < l.length))
          have hpos := g1.pos _ (List.getElem_mem (q1 : k < l.length))
          have htop := g1.top _ (List.getElem_mem (q1 : k < l.length))
          have gg := g1.give (q1 : k < l.length)
          have t1 := give_one (m := 1) (f := 0) (r := 2) (w := 3) (nx := 5) (n := 500) (by constructor <;> omega) (by omega) (F := F) (R := []) (W := W) g1.okF ok_nil g1.okW hpos htop hmt.1 hmt.2
          have hmt2 : mtB (putL W l[k]) l[k] = true := by
            rw [mt_iff gg.okW.nr _ hpos]
            exact ⟨l[k].1, ⟨Nat.le_refl _, by omega⟩, ((g1.okW.put hpos hmt.2 htop).2 _).2 (.inr ⟨Nat.le_refl _, by omega⟩)⟩
          have t2 := give_no (m := 1) (f := 0) (r := 2) (w := 5) (nx := 6) (n := 500) (by constructor <;> omega) (by omega) (F := F) (R := []) (W := putL W l[k]) (e := l[k]) g1.okF ok_nil gg.okW hmt2
          have c3 := commit15 1 0 2 6 9 500 (by constructor <;> omega) (by omega) F [] (putL W l[k]) g1.okF gg.okW gg.fw
          have wk : IntKind.i64.wrap ((k : Int) + 1) = (k : Int) + 1 := wrap64_id (by omega) (by omega)
          refine gcall_of0 t1 (by simp) (by simp [sub1, mapB, mapO, mapX]) trivial rfl ?_
          simp [mapB, mapO, mapX, q1]
          refine gcall_of0 t2 (by simp) (by simp [sub1, mapB, mapO, mapX]) trivial rfl ?_
          have wt : ∀ j, ∀ y ∈ List.take j (List.map extP l), y.width = 2 := fun j y hy => by obtain ⟨e, _, rfl⟩ := List.mem_map.1 (List.mem_of_mem_take hy); rfl
          have wd : ∀ j, ∀ y ∈ List.drop j (List.map extP l), y.width = 2 := fun j y hy => by obtain ⟨e, _, rfl⟩ := List.mem_map.1 (List.mem_of_mem_drop hy); rfl
          have wl : ∀ y ∈ (List.map extP l).tail, y.width = 2 := fun y hy => by obtain ⟨e, _, rfl⟩ := List.mem_map.1 (List.mem_of_mem_tail hy); rfl
          have w1 : IntKind.i64.wrap 1 = 1 := rfl
          by_cases cm : ((i : Int).tmod 3 == 2) = true
          · simp [mapB, mapO, mapX, wk, w1, cm]
            repeat' refine And.intro ?_ ?_
            all_goals first | omega | exact ewid' | exact ewid | exact wt _ | exact wd _ | exact wl | skip
            refine gcall_of0 c3 (by simp) (by simp [sub1, mapB, mapO, mapX]) trivial rfl ?_
            simp [mapB, mapO, mapX]
            refine ⟨i + 1, l.take k ++ l.drop (k + 1), ((putL W l[k]).foldl putL F), [], ⟨gg.commit, by simp; omega, by simp; omega⟩, by simp; omega, leN_of [(0, 9), (2, 10), (3, 11), (4, 8)] ?_⟩
            simp [mapB, mapO, mapX, wi]
          · simp [mapB, mapO, mapX, wk, w1, cm]
            repeat' refine And.intro ?_ ?_
            all_goals first | omega | exact ewid' | exact ewid | exact wt _ | exact wd _ | exact wl | skip
            refine ⟨i + 1, l.take k ++ l.drop (k + 1), F, (putL W l[k]), ⟨gg, by simp; omega, by simp; omega⟩, by simp; omega, leN_of [(3, 6), (4, 8)] ?_⟩
            simp [mapB, mapO, mapX, wi]
        · simp [l0, ci]
          have hmt := g1.mt (List.getElem_mem (l0 : 0 < l.length))
          have hpos := g1.pos _ (List.getElem_mem (l0 : 0 < l.length))
          have htop := g1.top _ (List.getElem_mem (l0 : 0 < l.length))
          have gg := g1.give (l0 : 0 < l.length)
          have t1 := give_one (m := 1) (f := 0) (r := 2) (w := 3) (nx := 5) (n := 500) (by constructor <;> omega) (by omega) (F := F) (R := []) (W := W) g1.okF ok_nil g1.okW hpos htop hmt.1 hmt.2
          have hmt2 : mtB (putL W l[0]) l[0] = true := by
            rw [mt_iff gg.okW.nr _ hpos]
            exact ⟨l[0].1, ⟨Nat.le_refl _, by omega⟩, ((g1.okW.put hpos hmt.2 htop).2 _).2 (.inr ⟨Nat.le_refl _, by omega⟩)⟩
          have t2 := give_no (m := 1) (f := 0) (r := 2) (w := 5) (nx := 6) (n := 500) (by constructor <;> omega) (by omega) (F := F) (R := []) (W := putL W l[0]) (e := l[0]) g1.okF ok_nil gg.okW hmt2
          have c3 := commit15 1 0 2 6 9 500 (by constructor <;> omega) (by omega) F [] (putL W l[0]) g1.okF gg.okW gg.fw
          have wk : IntKind.i64.wrap ((0 : Int) + 1) = (0 : Int) + 1 := wrap64_id (by omega) (by omega)
          refine gcall_of0 t1 (by simp) (by simp [sub1, mapB, mapO, mapX]) trivial rfl ?_
          simp [mapB, mapO, mapX, l0]
          refine gcall_of0 t2 (by simp) (by simp [sub1, mapB, mapO, mapX]) trivial rfl ?_
          have wt : ∀ j, ∀ y ∈ List.take j (List.map extP l), y.width = 2 := fun j y hy => by obtain ⟨e, _, rfl⟩ := List.mem_map.1 (List.mem_of_mem_take hy); rfl
          have wd : ∀ j, ∀ y ∈ List.drop j (List.map extP l), y.width = 2 := fun j y hy => by obtain ⟨e, _, rfl⟩ := List.mem_map.1 (List.mem_of_mem_drop hy); rfl
          have wl : ∀ y ∈ (List.map extP l).tail, y.width = 2 := fun y hy => by obtain ⟨e, _, rfl⟩ := List.mem_map.1 (List.mem_of_mem_tail hy); rfl
          have w1 : IntKind.i64.wrap 1 = 1 := rfl
          by_cases cm : ((i : Int).tmod 3 == 2) = true
          · simp [mapB, mapO, mapX, wk, w1, cm]
            repeat' refine And.intro ?_ ?_
            all_goals first | omega | exact ewid' | exact ewid | exact wt _ | exact wd _ | exact wl | skip
            refine gcall_of0 c3 (by simp) (by simp [sub1, mapB, mapO, mapX]) trivial rfl ?_
            simp [mapB, mapO, mapX]
            refine ⟨i + 1, l.take 0 ++ l.drop (0 + 1), ((putL W l[0]).foldl putL F), [], ⟨gg.commit, by simp; omega, by simp; omega⟩, by simp; omega, leN_of [(0, 9), (2, 10), (3, 11), (4, 8)] ?_⟩
            simp [mapB, mapO, mapX, wi]
          · simp [mapB, mapO, mapX, wk, w1, cm]
            repeat' refine And.intro ?_ ?_
            all_goals first | omega | exact ewid' | exact ewid | exact wt _ | exact wd _ | exact wl | skip
            refine ⟨i + 1, l.take 0 ++ l.drop (0 + 1), F, (putL W l[0]), ⟨gg, by simp; omega, by simp; omega⟩, by simp; omega, leN_of [(3, 6), (4, 8)] ?_⟩
            simp [mapB, mapO, mapX, wi]
end Go.Av

/-! part P16zb -/
namespace Go.Av
open Go.Proofs
theorem law4n {x y z : PC} (hx : intsS x) (hy : intsS y) (hz : boolS z) : PureC Try.prog 4 [x, y, z] (.bool true) := by
  obtain ⟨a, rfl⟩ := hx
  obtain ⟨b, rfl⟩ := hy
  obtain ⟨c, rfl⟩ := hz
  exact law4 a b c
end Go.Av
