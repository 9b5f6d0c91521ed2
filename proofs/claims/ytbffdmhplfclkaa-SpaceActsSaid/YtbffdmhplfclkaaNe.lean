/- What the document's map computes: runs, set, done, broken off. -/
import Derived.Test.YtbffdmhplfclkaaNd
set_option linter.all false
/-! part P16aa -/
namespace Go.Av
open Go.Proofs

/-- the free sectors' runs, sector by sector -/
def stepR (S : List Int) (L : List Ext) (i : Nat) : List Ext :=
  if S.getD i 1 = 0 then (if 0 < i ∧ S.getD (i - 1) 1 = 0 then L.dropLast ++ [((L.getLastD (0, 0)).1, (L.getLastD (0, 0)).2 + 1)] else L ++ [(i, 1)]) else L
def runsN (S : List Int) : Nat → List Ext
  | 0 => []
  | k + 1 => stepR S (runsN S k) k
def runsL (S : List Int) : List Ext := runsN S S.length

theorem nr_last {L : List Ext} (h : Nr L) {k : Nat} (ht : ∀ e ∈ L, e.1 + e.2 ≤ k + 1) (hm : mem L k) : ∃ A y, L = A ++ [y] ∧ y.1 + y.2 = k + 1 := by
  obtain ⟨e, he, h1⟩ := hm
  have h2 := ht e he
  unfold inE at h1
  rcases List.eq_nil_or_concat L with rfl | ⟨A, y, rfl⟩
  · simp at he
  · rw [List.concat_eq_append] at *
    refine ⟨A, y, rfl, ?_⟩
    rcases List.mem_append.1 he with he | he
    · have h3 := (nr_append.1 h).2.2 e he y (by simp)
      have h4 := ht y (by simp)
      have h5 := h.pos y (by simp)
      omega
    · simp at he; subst he; omega

theorem runs_inv (S : List Int) : ∀ k, Nr (runsN S k) ∧ (∀ e ∈ runsN S k, e.1 + e.2 ≤ k) ∧ (∀ s, mem (runsN S k) s ↔ s < k ∧ S.getD s 1 = 0)
  | 0 => ⟨nr_nil, by simp [runsN], by simp [runsN]⟩
  | k + 1 => by
    obtain ⟨h1, h2, h3⟩ := runs_inv S k
    simp only [runsN, stepR]
    split
    · rename_i hz
      split
      · rename_i hp
        obtain ⟨A, y, hL, hy⟩ := nr_last (k := k - 1) h1 (fun e he => by have := h2 e he; omega) ((h3 _).2 ⟨by omega, hp.2⟩)
        rw [hL] at h1 h2 h3 ⊢
        simp only [List.dropLast_concat, List.getLastD_concat]
        obtain ⟨n1, n2, n3⟩ := nr_append.1 h1
        have hyp := h1.pos y (by simp)
        refine ⟨nr_append.2 ⟨n1, nr_one (by simp), fun a ha b hb => by simp at hb; subst hb; exact n3 a ha y (by simp)⟩, ?_, fun s => ?_⟩
        · intro e he
          rcases List.mem_append.1 he with he | he
          · have := h2 e (by simp [he]); omega
          · simp at he; subst he; simp only; omega
        · have := h3 s
          rw [mem_append, mem_cons] at this ⊢
          simp only [mem_nil, or_false] at this ⊢
          unfold inE at this ⊢
          simp only
          by_cases hs : s = k
          · subst hs; constructor
            · intro _; exact ⟨by omega, hz⟩
            · intro _; exact .inr ⟨by omega, by omega⟩
          · constructor
            · rintro (h | h)
              · have := this.1 (.inl h); exact ⟨by omega, this.2⟩
              · have := this.1 (.inr ⟨h.1, by omega⟩); exact ⟨by omega, this.2⟩
            · rintro ⟨h, hh⟩
              rcases this.2 ⟨by omega, hh⟩ with h | h
              · exact .inl h
              · exact .inr ⟨h.1, by omega⟩
      · rename_i hp
        refine ⟨nr_append.2 ⟨h1, nr_one (by simp), fun a ha b hb => ?_⟩, ?_, fun s => ?_⟩
        · simp at hb; subst hb
          have ht := h2 a ha
          have hpo := h1.pos a ha
          rcases Nat.lt_or_ge (a.1 + a.2) k with h | h
          · exact h
          · exact absurd ⟨by omega, ((h3 (k - 1)).1 ⟨a, ha, by unfold inE; omega⟩).2⟩ hp
        · intro e he
          rcases List.mem_append.1 he with he | he
          · have := h2 e he; omega
          · simp at he; subst he; simp
        · rw [mem_append, mem_cons, h3 s]
          simp only [mem_nil, or_false]
          unfold inE; simp only
          constructor
          · rintro (h | h)
            · exact ⟨by omega, h.2⟩
            · have : s = k := by omega
              subst this; exact ⟨by omega, hz⟩
          · rintro ⟨h, hh⟩
            by_cases hs : s = k
            · subst hs; exact .inr ⟨by omega, by omega⟩
            · exact .inl ⟨by omega, hh⟩
    · rename_i hz
      refine ⟨h1, fun e he => by have := h2 e he; omega, fun s => ?_⟩
      rw [h3 s]
      constructor
      · rintro ⟨h, hh⟩; exact ⟨by omega, hh⟩
      · rintro ⟨h, hh⟩
        refine ⟨?_, hh⟩
        rcases Nat.lt_or_ge s k with h | h
        · exact h
        · have : s = k := by omega
          subst this; exact absurd hh hz
theorem runs_ok (S : List Int) : Ok S.length (runsL S) := ⟨(runs_inv S _).1, (runs_inv S _).2.1⟩
theorem runs_mem (S : List Int) (s : Nat) : mem (runsL S) s ↔ s < S.length ∧ S.getD s 1 = 0 := (runs_inv S _).2.2 s
/-- whatever lists the free sectors is the list of runs -/
theorem runs_eq {S : List Int} {F : List Ext} (h : Nr F) (hm : ∀ s, mem F s ↔ s < S.length ∧ S.getD s 1 = 0) : F = runsL S :=
  nr_uniq h (runs_ok S).nr fun s => by rw [hm, runs_mem]

/-- how many -/
def cntN (p : Nat → Bool) : Nat → Nat
  | 0 => 0
  | k + 1 => cntN p k + if p k = true then 1 else 0
theorem cnt_le (p : Nat → Bool) : ∀ k, cntN p k ≤ k
  | 0 => Nat.le_refl _
  | k + 1 => by have := cnt_le p k; simp only [cntN]; split <;> omega
end Go.Av

/-! part P16ab -/
namespace Go.Av
open Go.Proofs

abbrev refPC (S : List Int) (W : List Bool) : PC := .agg false [.sl (S.map PC.int), .sl (W.map PC.bool)]
def zeros (S : List Int) (k : Nat) : Nat := cntN (fun i => decide (S.getD i 1 = 0)) k
def trues (W : List Bool) (k : Nat) : Nat := cntN (fun i => W.getD i false) k

theorem rfree26 (S : List Int) (W : List Bool) (hl : S.length ≤ 1000000) : PureC Try.prog 26 [.ref (refPC S W)] (.int (zeros S S.length)) := by
  refine pure_of_aw (ys := [_]) [] [] [] mixed Try.func26 rfl (by kernel_rfl) (by kernel_rfl) (by simp [Try.ntmps26]) rfl ?_
  simp
  refine aw_loop0 (fun k : Nat => k ≤ S.length) (fun k => [(0, .p (.ref (refPC S W))), (3, .p (.int (zeros S k))), (4, .p (.int k))]) (fun k => S.length - k) 0 (by simp) (leN_id (by simp [zeros, cntN])) ?_
  intro k hk
  have hb := cnt_le (fun i => decide (S.getD i 1 = 0)) k
  by_cases c : k < S.length
  · have e : S.getD k 1 = S[k] := by simp [List.getD, c]
    by_cases z : S[k] = 0
    · simp [c, z]
      refine ⟨k + 1, by omega, by omega, leN_id ?_⟩
      have : zeros S (k + 1) = zeros S k + 1 := by simp [zeros, cntN, List.getD, c, z]
      have hb : zeros S k ≤ k := hb
      simp [this, wrap64_id (n := (k : Int) + 1) (by omega) (by omega), wrap64_id (n := (zeros S k : Int) + 1) (by omega) (by omega)]
    · have zd : (S[k] == 0) = false := by simp [z]
      simp [c, zd]
      refine ⟨k + 1, by omega, by omega, leN_id ?_⟩
      have : zeros S (k + 1) = zeros S k := by simp [zeros, cntN, List.getD, c, z]
      simp [this, wrap64_id (n := (k : Int) + 1) (by omega) (by omega)]
  · obtain rfl : k = S.length := by omega
    simp [Try.results26]
theorem rwait27 (S : List Int) (W : List Bool) (hl : S.length ≤ 1000000) (hW : W.length = S.length) : PureC Try.prog 27 [.ref (refPC S W)] (.int (trues W S.length)) := by
  refine pure_of_aw (ys := [_]) [] [] [] mixed Try.func27 rfl (by kernel_rfl) (by kernel_rfl) (by simp [Try.ntmps27]) rfl ?_
  simp
  refine aw_loop0 (fun k : Nat => k ≤ S.length) (fun k => [(0, .p (.ref (refPC S W))), (3, .p (.int (trues W k))), (4, .p (.int k))]) (fun k => S.length - k) 0 (by simp) (leN_id (by simp [trues, cntN])) ?_
  intro k hk
  have hb := cnt_le (fun i => W.getD i false) k
  by_cases c : k < S.length
  · have cw : k < W.length := by omega
    cases z : W[k] with
    | true =>
      simp [c, cw, z]
      refine ⟨k + 1, by omega, by omega, leN_id ?_⟩
      have : trues W (k + 1) = trues W k + 1 := by simp [trues, cntN, List.getD, cw, z]
      have hb : trues W k ≤ k := hb
      simp [this, wrap64_id (n := (k : Int) + 1) (by omega) (by omega), wrap64_id (n := (trues W k : Int) + 1) (by omega) (by omega)]
    | false =>
      simp [c, cw, z]
      refine ⟨k + 1, by omega, by omega, leN_id ?_⟩
      have : trues W (k + 1) = trues W k := by simp [trues, cntN, List.getD, cw, z]
      simp [this, wrap64_id (n := (k : Int) + 1) (by omega) (by omega)]
  · obtain rfl : k = S.length := by omega
    simp [Try.results27]

/-- a slot that holds no list: a row without room -/
theorem le_voidS {nx0 : Nat} {st : AS} (t : Nat) (el : TypeId) (s : Nat) (h : isNone (st.sl t)) : st.le nx0 ⟨upd st.sl t (.view st.tb.nx 0 0 s none), st.tb.addOb ⟨el, s, []⟩⟩ := by
  rintro fr a w hf ⟨g, h0, h1, h2, h3, h4⟩
  obtain ⟨ad, hv, hva⟩ : ∃ ad, a.tmps.getD t undef = .slice ad 0 0 ∧ (ad = none ∨ ∃ a', ad = some a') := by
    have := h2 t
    generalize a.tmps.getD t undef = v at this ⊢
    unfold isNone at h
    split at h
    · rename_i e; rw [e] at this
      cases this with
      | full hr => cases hr with
        | nilsl => exact ⟨none, rfl, .inl rfl⟩
        | sl0 a => exact ⟨_, rfl, .inr ⟨_, rfl⟩⟩
        | sl hn _ _ _ _ _ _ hs => have := hs.length; simp at this; rw [this] at hn; simp at hn; subst hn; exact ⟨_, rfl, .inr ⟨_, rfl⟩⟩
    · rename_i e; rw [e] at this
      have := repV_p this
      cases this; exact ⟨none, rfl, .inl rfl⟩
    · exact h.elim
  refine ⟨_, h0.trans (h1.leOb 0 0), h1.voidOb el s, fun u => ?_, h3, h4⟩
  simp only [upd]
  split
  · rename_i e; subst e; rw [hv]
    have := RepV.view (g := g.obAt st.tb.nx 0 0) (id := st.tb.nx) (b := 0) (c := 0) (o := 0) (n := 0) (s := s) (a := ad) (m := none) (by simp [G.obAt]) (by omega) (by unfold maxLen; omega) (.void rfl hva) (by simp)
    simpa using this
  · exact (h2 u).mono (h1.leOb 0 0)
end Go.Av

/-! part P16ad -/
namespace Go.Av
open Go.Proofs

abbrev rowI (S : List Int) : Ob := ⟨3, 1, (S.map PC.int).map .p⟩
abbrev rowT (W : List Bool) : Ob := ⟨4, 1, (W.map PC.bool).map .p⟩
def refX (s t n : Nat) : List AV := [.view s 0 n 1 none, .view t 0 n 1 none]
def refO (s t n : Nat) : Ob := ⟨59, 2, refX s t n⟩
def refB (a s t : Nat) (S : List Int) (W : List Bool) : List (Nat × Ob) := [(a, refO s t S.length), (s, rowI S), (t, rowT W)]
structure IdR (a s t nx : Nat) : Prop where
  ha : a < nx
  hs : s < nx
  ht : t < nx
  has : a ≠ s
  hat : a ≠ t
  hst : s ≠ t

theorem bor_rowI {bx : List (Nat × Ob)} {k id n : Nat} {c : Option Nat} {S : List Int} (h : lk id bx = some (rowI S)) (hn : n = S.length) : borF bx (k + 1) (.view id 0 n 1 c) (.sl (S.map PC.int)) := by
  subst hn
  refine ⟨_, h, by omega, by first | rfl | simp, by first | simp | rfl, ?_, ?_, ?_⟩
  · have e : ∀ (l : List PC), (∀ x ∈ l, pcs x = [x]) → l.flatMap pcs = l := fun l hl => by
      induction l with
      | nil => rfl
      | cons x l ih => rw [List.flatMap_cons, hl x (by simp), ih fun y hy => hl y (by simp [hy])]; rfl
    rw [flat_pcs, e _ (fun x hx => by obtain ⟨_, _, rfl⟩ := List.mem_map.1 hx; rfl)]
    simp
    try exact List.take_of_length_le (by simp)
  · intro y hy; obtain ⟨e, _, rfl⟩ := List.mem_map.1 hy; rfl
  · intro y hy; obtain ⟨e, _, rfl⟩ := List.mem_map.1 hy; rfl
theorem bor_rowT {bx : List (Nat × Ob)} {k id n : Nat} {c : Option Nat} {W : List Bool} (h : lk id bx = some (rowT W)) (hn : n = W.length) : borF bx (k + 1) (.view id 0 n 1 c) (.sl (W.map PC.bool)) := by
  subst hn
  refine ⟨_, h, by omega, by first | rfl | simp, by first | simp | rfl, ?_, ?_, ?_⟩
  · have e : ∀ (l : List PC), (∀ x ∈ l, pcs x = [x]) → l.flatMap pcs = l := fun l hl => by
      induction l with
      | nil => rfl
      | cons x l ih => rw [List.flatMap_cons, hl x (by simp), ih fun y hy => hl y (by simp [hy])]; rfl
    rw [flat_pcs, e _ (fun x hx => by obtain ⟨_, _, rfl⟩ := List.mem_map.1 hx; rfl)]
    simp
    try exact List.take_of_length_le (by simp)
  · intro y hy; obtain ⟨e, _, rfl⟩ := List.mem_map.1 hy; rfl
  · intro y hy; obtain ⟨e, _, rfl⟩ := List.mem_map.1 hy; rfl
theorem bor_ref {bx : List (Nat × Ob)} {k a s t : Nat} {S : List Int} {W : List Bool} (ha : lk a bx = some (refO s t S.length)) (hs : lk s bx = some (rowI S)) (ht : lk t bx = some (rowT W)) (hl : W.length = S.length) :
    borF bx (k + 2) (.obj a 0) (.ref (refPC S W)) := by
  refine ⟨_, ha, by simp [refO, refX], ?_⟩
  exact ⟨bor_rowI hs rfl, bor_rowT ht hl.symm, trivial⟩
end Go.Av

/-! part P16ac -/
namespace Go.Av
open Go.Proofs

set_option maxHeartbeats 4000000 in
set_option maxRecDepth 100000 in
theorem runs28 (a s t nx : Nat) (h : IdR a s t nx) (S : List Int) (W : List Bool) (hl : S.length ≤ 1000000) :
    GenC Try.prog 28 [.obj a 0] ⟨refB a s t S W, [], nx⟩ (.view nx 0 (runsL S).length 2 none) ⟨(nx, rowO (runsL S)) :: refB a s t S W, [], nx + 1⟩ := by
  obtain ⟨ha, hs, ht, has, hat, hst⟩ := h
  have sa_ := Ne.symm has
  have ta_ := Ne.symm hat
  have ts_ := Ne.symm hst
  have q1 : ¬ a = nx := by omega
  have p1 : ¬ nx = a := by omega
  have q2 : ¬ a = nx + 1 := by omega
  have p2 : ¬ nx + 1 = a := by omega
  have q3 : ¬ a = nx + 1 + 1 := by omega
  have p3 : ¬ nx + 1 + 1 = a := by omega
  have la1 : a < nx + 1 := by omega
  have la2 : a < nx + 1 + 1 := by omega
  have la3 : a < nx + 1 + 1 + 1 := by omega
  have q4 : ¬ s = nx := by omega
  have p4 : ¬ nx = s := by omega
  have q5 : ¬ s = nx + 1 := by omega
  have p5 : ¬ nx + 1 = s := by omega
  have q6 : ¬ s = nx + 1 + 1 := by omega
  have p6 : ¬ nx + 1 + 1 = s := by omega
  have ls1 : s < nx + 1 := by omega
  have ls2 : s < nx + 1 + 1 := by omega
  have ls3 : s < nx + 1 + 1 + 1 := by omega
  have q7 : ¬ t = nx := by omega
  have p7 : ¬ nx = t := by omega
  have q8 : ¬ t = nx + 1 := by omega
  have p8 : ¬ nx + 1 = t := by omega
  have q9 : ¬ t = nx + 1 + 1 := by omega
  have p9 : ¬ nx + 1 + 1 = t := by omega
  have lt1 : t < nx + 1 := by omega
  have lt2 : t < nx + 1 + 1 := by omega
  have lt3 : t < nx + 1 + 1 + 1 := by omega
  refine gen_of_aw (rs := [_]) [58] [(8, [(6, .r 1), (11, .r 1), (15, .s 1 [])])] [(1, nx)] mixed Try.func28 rfl (by kernel_rfl) (by kernel_rfl) (by simp [Try.ntmps28]) rfl ?_
  simp
  refine aw_loop (fun k : Nat => k ≤ S.length) (fun k => [(0, .obj a 0), (3, .view nx 0 (runsN S k).length 2 none), (4, .p (.int k))]) (fun k => ⟨(nx, rowO (runsN S k)) :: refB a s t S W, [], nx + 1⟩) (fun k => S.length - k) 0 (by simp) _
    (le_voidS 3 29 2 (by simp [isNone])) (leN_id (by simp [runsN, refB, refO, refX, has, sa_, hat, ta_, hst, ts_, q1, p1, q2, p2, q3, p3, ha, la1, la2, la3, q4, p4, q5, p5, q6, p6, hs, ls1, ls2, ls3, q7, p7, q8, p8, q9, p9, ht, lt1, lt2, lt3])) ?_
  intro k hk
  obtain ⟨i1, i2, i3⟩ := runs_inv S k
  by_cases c : k < S.length
  · have e : S.getD k 1 = S[k] := by simp [List.getD, c]
    by_cases z : S[k] = 0
    · have zn : (S[k] == 0) = true := by simp [z]
      have hcase : (∃ hp : 0 < k, S[k - 1] = 0) ∨ ¬ (0 < k ∧ S.getD (k - 1) 1 = 0) := by
        by_cases hp : 0 < k
        · by_cases hq : S[k - 1] = 0
          · exact .inl ⟨hp, hq⟩
          · right; rintro ⟨_, h⟩; apply hq; simpa [List.getD, show k - 1 < S.length by omega] using h
        · exact .inr fun h => hp h.1
      rcases hcase with ⟨hp, hq⟩ | hn
      · have hq' : S.getD (k - 1) 1 = 0 := by simp [List.getD, show k - 1 < S.length by omega, hq]
        obtain ⟨A, y, hL, hy⟩ := nr_last (k := k - 1) i1 (fun e he => by have := i2 e he; omega) ((i3 _).2 ⟨by omega, hq'⟩)
        have hstep : runsN S (k + 1) = A ++ [(y.1, y.2 + 1)] := by
          simp only [runsN, stepR]; rw [e, if_pos z, if_pos ⟨hp, hq'⟩, hL]; simp
        have hw : IntKind.i64.wrap ((k : Int) - 1) = ((k - 1 : Nat) : Int) := by rw [wrap64_id (by omega) (by omega)]; omega
        have hp' : k ≠ 0 := by omega
        have hAl : A.length ≤ 1000000 := by have := (runs_ok S).nr; have h2 := i1; have := Ok.len (n := k) ⟨i1, i2⟩; rw [hL] at this; simp at this; omega
        have hA : IntKind.i64.wrap (A.length : Int) = (A.length : Int) := wrap64_id (by omega) (by omega)
        obtain ⟨g1, g2⟩ := cellsL_at (L := A ++ [y]) (i := A.length) (by simp)
        simp only [List.getElem_concat_length] at g1 g2
        have g3 : (cellsL (A ++ [y])).take (A.length * 2) = cellsL A := by rw [cellsL_take]; simp
        have g4 : (cellsL (A ++ [y])).drop (A.length * 2 + 2) = [] := by rw [show A.length * 2 + 2 = (A.length + 1) * 2 by omega, cellsL_drop]; simp
        have hlt : A.length * 2 < (cellsL (A ++ [y])).length := by simp
        have g1' : (cellsL (A ++ [y]))[A.length * 2] = PC.int y.1 := (List.getElem_eq_iff hlt).2 g1
        have l1 : (A.length : Int) < (A.length : Int) + 1 := by omega
        have w1 : IntKind.i64.wrap ((y.2 : Int) + 1) = ((y.2 + 1 : Nat) : Int) := by rw [wrap64_id (by omega) (by omega)]; simp
        rw [hL]
        simp [refB, refO, refX, has, sa_, hat, ta_, hst, ts_, q1, p1, q2, p2, q3, p3, ha, la1, la2, la3, q4, p4, q5, p5, q6, p6, hs, ls1, ls2, ls3, q7, p7, q8, p8, q9, p9, ht, lt1, lt2, lt3, c, z, hp, hw, hq, show k - 1 < S.length by omega, hA, g1', g1, g2, l1, g3, g4, w1]
        refine ⟨by omega, k + 1, by omega, by omega, leN_id ?_⟩
        simp [refB, refO, refX, has, sa_, hat, ta_, hst, ts_, q1, p1, q2, p2, q3, p3, ha, la1, la2, la3, q4, p4, q5, p5, q6, p6, hs, ls1, ls2, ls3, q7, p7, q8, p8, q9, p9, ht, lt1, lt2, lt3, hstep, ← List.map_take, ← List.map_drop, g3, g4, cellsL_append, cellsL_cons, wrap64_id (n := (k : Int) + 1) (by omega) (by omega)]
      · have hstep : runsN S (k + 1) = runsN S k ++ [(k, 1)] := by
          simp only [runsN, stepR]; rw [e, if_pos z, if_neg hn]
        have hLl : (runsN S k).length ≤ 1000000 := by have := Ok.len (n := k) ⟨i1, i2⟩; omega
        have b1 : ((runsN S k).length + 1) * 16 ≤ 140737488355328 := by omega
        have b2 : (runsN S k).length + 1 ≤ 9223372036854775807 := by omega
        have hz0 : k = 0 ∨ ∃ h : 0 < k, (S[k - 1] == 0) = false ∧ IntKind.i64.wrap ((k : Int) - 1) = ((k - 1 : Nat) : Int) := by
          rcases Nat.eq_zero_or_pos k with h | h
          · exact .inl h
          · refine .inr ⟨h, ?_, by rw [wrap64_id (by omega) (by omega)]; omega⟩
            have : ¬ S[k - 1] = 0 := fun hq => hn ⟨h, by simp [List.getD, show k - 1 < S.length by omega, hq]⟩
            simpa using this
        rcases hz0 with h0 | ⟨h0, h1, h2⟩
        · subst h0
          have r0 : runsN S 0 = [] := rfl
          have hstep : runsN S 1 = [(0, 1)] := by rw [hstep, r0]; rfl
          simp [refB, refO, refX, has, sa_, hat, ta_, hst, ts_, q1, p1, q2, p2, q3, p3, ha, la1, la2, la3, q4, p4, q5, p5, q6, p6, hs, ls1, ls2, ls3, q7, p7, q8, p8, q9, p9, ht, lt1, lt2, lt3, c, z, r0]
          refine ⟨1, by omega, by omega, leN_of [(nx, nx + 1)] ?_⟩
          simp [refB, refO, refX, has, sa_, hat, ta_, hst, ts_, q1, p1, q2, p2, q3, p3, ha, la1, la2, la3, q4, p4, q5, p5, q6, p6, hs, ls1, ls2, ls3, q7, p7, q8, p8, q9, p9, ht, lt1, lt2, lt3, hstep, cellsL_cons, wrap64_id (n := 1) (by omega) (by omega)]
        · simp [refB, refO, refX, has, sa_, hat, ta_, hst, ts_, q1, p1, q2, p2, q3, p3, ha, la1, la2, la3, q4, p4, q5, p5, q6, p6, hs, ls1, ls2, ls3, q7, p7, q8, p8, q9, p9, ht, lt1, lt2, lt3, c, z, h0, h1, h2, show k - 1 < S.length by omega]
          have hx : (cellsL (runsN S k)).take ((runsN S k).length * 2) = cellsL (runsN S k) := by rw [cellsL_take, List.take_length]
          refine ⟨b1, by omega, k + 1, by omega, by omega, leN_of [(nx, nx + 1)] ?_⟩
          simp [refB, refO, refX, has, sa_, hat, ta_, hst, ts_, q1, p1, q2, p2, q3, p3, ha, la1, la2, la3, q4, p4, q5, p5, q6, p6, hs, ls1, ls2, ls3, q7, p7, q8, p8, q9, p9, ht, lt1, lt2, lt3, hstep, ← List.map_take, hx, cellsL_append, cellsL_cons, wrap64_id (n := (k : Int) + 1) (by omega) (by omega)]
    · have zd : (S[k] != 0) = true := by simp [z]
      simp [refB, refO, refX, has, sa_, hat, ta_, hst, ts_, q1, p1, q2, p2, q3, p3, ha, la1, la2, la3, q4, p4, q5, p5, q6, p6, hs, ls1, ls2, ls3, q7, p7, q8, p8, q9, p9, ht, lt1, lt2, lt3, c, zd]
      refine ⟨k + 1, by omega, by omega, leN_id ?_⟩
      have : runsN S (k + 1) = runsN S k := by simp only [runsN, stepR]; rw [e, if_neg z]
      simp [refB, refO, refX, has, sa_, hat, ta_, hst, ts_, q1, p1, q2, p2, q3, p3, ha, la1, la2, la3, q4, p4, q5, p5, q6, p6, hs, ls1, ls2, ls3, q7, p7, q8, p8, q9, p9, ht, lt1, lt2, lt3, this, wrap64_id (n := (k : Int) + 1) (by omega) (by omega)]
  · obtain rfl : k = S.length := by omega
    simp [refB, refO, refX, has, sa_, hat, ta_, hst, ts_, q1, p1, q2, p2, q3, p3, ha, la1, la2, la3, q4, p4, q5, p5, q6, p6, hs, ls1, ls2, ls3, q7, p7, q8, p8, q9, p9, ht, lt1, lt2, lt3, Try.results28]
    exact ⟨[], by simp [refB, refO, refX, has, sa_, hat, ta_, hst, ts_, q1, p1, q2, p2, q3, p3, ha, la1, la2, la3, q4, p4, q5, p5, q6, p6, hs, ls1, ls2, ls3, q7, p7, q8, p8, q9, p9, ht, lt1, lt2, lt3, runsL]⟩
end Go.Av

/-! part P16ae -/
namespace Go.Av
open Go.Proofs

/-- one value into so many cells -/
def setR {α : Type} (S : List α) (x : Nat) : Nat → α → List α
  | 0, _ => S
  | i + 1, v => (setR S x i v).set (x + i) v
@[simp] theorem setR_len {α : Type} (S : List α) (x : Nat) (v : α) : ∀ i, (setR S x i v).length = S.length
  | 0 => rfl
  | i + 1 => by simp [setR, setR_len S x v i]
theorem setR_get {α : Type} (S : List α) (x : Nat) (v d : α) : ∀ i, x + i ≤ S.length → ∀ j, (setR S x i v).getD j d = if x ≤ j ∧ j < x + i then v else S.getD j d
  | 0, _, j => by simp [setR]; omega
  | i + 1, h, j => by
    have ih := setR_get S x v d i (by omega) j
    simp only [setR, List.getD_eq_getElem?_getD, List.getElem?_set] at ih ⊢
    by_cases e : x + i = j
    · subst e; rw [if_pos rfl, if_pos (by simp; omega), if_pos (by omega)]; rfl
    · rw [if_neg e, ih]
      by_cases c : x ≤ j ∧ j < x + i
      · rw [if_pos c, if_pos (by omega)]
      · rw [if_neg c, if_neg (by omega)]
theorem row_set {α : Type} (l : List α) (k : Nat) (h : k < l.length) (v : α) : l.take k ++ v :: l.drop (k + 1) = l.set k v := by
  rw [List.set_eq_take_append_cons_drop, if_pos h]

set_option maxHeartbeats 4000000 in
set_option maxRecDepth 100000 in
theorem set42 (a s t nx : Nat) (h : IdR a s t nx) (S : List Int) (W : List Bool) (hl : S.length ≤ 1000) (e : Ext) (he : e.1 + e.2 ≤ S.length) (v : Int) :
    GenC Try.prog 42 [.obj a 0, .p (extP e), .p (.int v)] ⟨refB a s t S W, [], nx⟩ (.agg true []) ⟨refB a s t (setR S e.1 e.2 v) W, [], nx⟩ := by
  obtain ⟨ha, hs, ht, has, hat, hst⟩ := h
  have sa_ := Ne.symm has
  have ta_ := Ne.symm hat
  have ts_ := Ne.symm hst
  have q1 : ¬ a = nx := by omega
  have p1 : ¬ nx = a := by omega
  have q2 : ¬ a = nx + 1 := by omega
  have p2 : ¬ nx + 1 = a := by omega
  have la1 : a < nx + 1 := by omega
  have la2 : a < nx + 1 + 1 := by omega
  have q3 : ¬ s = nx := by omega
  have p3 : ¬ nx = s := by omega
  have q4 : ¬ s = nx + 1 := by omega
  have p4 : ¬ nx + 1 = s := by omega
  have ls1 : s < nx + 1 := by omega
  have ls2 : s < nx + 1 + 1 := by omega
  have q5 : ¬ t = nx := by omega
  have p5 : ¬ nx = t := by omega
  have q6 : ¬ t = nx + 1 := by omega
  have p6 : ¬ nx + 1 = t := by omega
  have lt1 : t < nx + 1 := by omega
  have lt2 : t < nx + 1 + 1 := by omega
  have w1 : IntKind.i64.wrap ((e.1 : Int) + (e.2 : Int)) = (e.1 : Int) + (e.2 : Int) := wrap64_id (by omega) (by omega)
  refine gen_of_aw (rs := []) [] [] [] mixed Try.func42 rfl (by kernel_rfl) (by kernel_rfl) (by simp [Try.ntmps42]) rfl ?_
  simp [refB, refO, refX, has, sa_, hat, ta_, hst, ts_, q1, p1, q2, p2, ha, la1, la2, q3, p3, q4, p4, hs, ls1, ls2, q5, p5, q6, p6, ht, lt1, lt2]
  refine aw_loop (fun j : Nat => e.1 ≤ j ∧ j ≤ e.1 + e.2) (fun j => [(0, .obj a 0), (2, .p (.int v)), (4, .p (.ref (extP e))), (6, .p (.int j))])
    (fun j => ⟨refB a s t (setR S e.1 (j - e.1) v) W, [], nx⟩) (fun j => e.1 + e.2 - j) e.1 (by simp) _ (AS.le_refl _ _) (leN_id (by simp [refB, refO, refX, setR, has, sa_, hat, ta_, hst, ts_, q1, p1, q2, p2, ha, la1, la2, q3, p3, q4, p4, hs, ls1, ls2, q5, p5, q6, p6, ht, lt1, lt2])) ?_
  rintro j ⟨j1, j2⟩
  by_cases c : j < e.1 + e.2
  · have c' : j < S.length := by omega
    have c2 : (j : Int) < (e.1 : Int) + (e.2 : Int) := by omega
    have c3 : j ≤ S.length := by omega
    have c4 : j + 1 ≤ S.length := by omega
    have hst2 : setR S e.1 (j + 1 - e.1) v = (setR S e.1 (j - e.1) v).set j v := by
      obtain ⟨i, rfl⟩ : ∃ i, j = e.1 + i := ⟨j - e.1, by omega⟩
      rw [show e.1 + i + 1 - e.1 = i + 1 by omega, show e.1 + i - e.1 = i by omega]; rfl
    have hset : (List.map (AV.p ∘ PC.int) (setR S e.1 (j - e.1) v)).take j ++ AV.p (PC.int v) :: (List.map (AV.p ∘ PC.int) (setR S e.1 (j - e.1) v)).drop (j + 1) = List.map (AV.p ∘ PC.int) (setR S e.1 (j + 1 - e.1) v) := by
      rw [row_set _ _ (by simpa using c'), hst2]; simp
    simp [refB, refO, refX, c, c', c2, c3, c4, w1, has, sa_, hat, ta_, hst, ts_, q1, p1, q2, p2, ha, la1, la2, q3, p3, q4, p4, hs, ls1, ls2, q5, p5, q6, p6, ht, lt1, lt2]
    refine ⟨j + 1, ⟨by omega, by omega⟩, by omega, leN_id ?_⟩
    simp [hset, has, sa_, hat, ta_, hst, ts_, q1, p1, q2, p2, ha, la1, la2, q3, p3, q4, p4, hs, ls1, ls2, q5, p5, q6, p6, ht, lt1, lt2, wrap64_id (n := (j : Int) + 1) (by omega) (by omega)]
  · obtain rfl : j = e.1 + e.2 := by omega
    have c2 : ¬ ((e.1 : Int) + (e.2 : Int) < (e.1 : Int) + (e.2 : Int)) := by omega
    simp [refB, refO, refX, w1, c2, has, sa_, hat, ta_, hst, ts_, q1, p1, q2, p2, ha, la1, la2, q3, p3, q4, p4, hs, ls1, ls2, q5, p5, q6, p6, ht, lt1, lt2, Try.results42]
    exact ⟨[], by simp [refO, refX, has, sa_, hat, ta_, hst, ts_, q1, p1, q2, p2, ha, la1, la2, q3, p3, q4, p4, hs, ls1, ls2, q5, p5, q6, p6, ht, lt1, lt2]⟩
end Go.Av

/-! part P16af -/
namespace Go.Av
open Go.Proofs

def cmV (x : Int) (b : Bool) : Int := if b = true then 0 else if x = 2 then 1 else x
def cmN (S : List Int) (W : List Bool) : Nat → List Int
  | 0 => S
  | k + 1 => (cmN S W k).set k (cmV (S.getD k 0) (W.getD k false))
def abN (S : List Int) : Nat → List Int
  | 0 => S
  | k + 1 => (abN S k).set k (if S.getD k 0 = 2 then 0 else S.getD k 0)
def flN (W : List Bool) : Nat → List Bool
  | 0 => W
  | k + 1 => (flN W k).set k false
@[simp] theorem cmN_len (S : List Int) (W : List Bool) : ∀ k, (cmN S W k).length = S.length
  | 0 => rfl
  | k + 1 => by simp [cmN, cmN_len S W k]
@[simp] theorem abN_len (S : List Int) : ∀ k, (abN S k).length = S.length
  | 0 => rfl
  | k + 1 => by simp [abN, abN_len S k]
@[simp] theorem flN_len (W : List Bool) : ∀ k, (flN W k).length = W.length
  | 0 => rfl
  | k + 1 => by simp [flN, flN_len W k]
theorem setN_get {α : Type} (f : Nat → List α) (g : Nat → α) (d : α) (n : Nat) (h0 : (f 0).length = n) (h : ∀ k, f (k + 1) = (f k).set k (g k)) : ∀ k, k ≤ n → (f k).length = n ∧ ∀ j, (f k).getD j d = if j < k then g j else (f 0).getD j d
  | 0, _ => ⟨h0, fun j => by simp⟩
  | k + 1, hk => by
    obtain ⟨i1, i2⟩ := setN_get f g d n h0 h k (by omega)
    refine ⟨by rw [h, List.length_set, i1], fun j => ?_⟩
    have i3 := i2 j
    rw [h]
    simp only [List.getD_eq_getElem?_getD, List.getElem?_set] at i3 ⊢
    by_cases e : k = j
    · subst e; rw [if_pos rfl, if_pos (by omega), if_pos (by omega)]; rfl
    · rw [if_neg e, i3]
      by_cases c : j < k
      · rw [if_pos c, if_pos (by omega)]
      · rw [if_neg c, if_neg (by omega)]
theorem cmN_get (S : List Int) (W : List Bool) (k : Nat) (hk : k ≤ S.length) (d : Int) (j : Nat) : (cmN S W k).getD j d = if j < k then cmV (S.getD j 0) (W.getD j false) else S.getD j d :=
  (setN_get (cmN S W) _ d S.length rfl (fun _ => rfl) k hk).2 j
theorem abN_get (S : List Int) (k : Nat) (hk : k ≤ S.length) (d : Int) (j : Nat) : (abN S k).getD j d = if j < k then (if S.getD j 0 = 2 then 0 else S.getD j 0) else S.getD j d :=
  (setN_get (abN S) _ d S.length rfl (fun _ => rfl) k hk).2 j
theorem flN_get (W : List Bool) (k : Nat) (hk : k ≤ W.length) (d : Bool) (j : Nat) : (flN W k).getD j d = if j < k then false else W.getD j d :=
  (setN_get (flN W) _ d W.length rfl (fun _ => rfl) k hk).2 j
theorem getD_at {α : Type} {l : List α} {k : Nat} (h : k < l.length) (d : α) : l.getD k d = l[k] := by simp [List.getD, h]

set_option maxHeartbeats 4000000 in
set_option maxRecDepth 100000 in
theorem rabort25 (a s t nx : Nat) (h : IdR a s t nx) (S : List Int) (W : List Bool) (hl : S.length ≤ 1000) (hW : W.length = S.length) :
    GenC Try.prog 25 [.obj a 0] ⟨refB a s t S W, [], nx⟩ (.agg true []) ⟨refB a s t (abN S S.length) (flN W S.length), [], nx⟩ := by
  obtain ⟨ha, hs, ht, has, hat, hst⟩ := h
  have sa_ := Ne.symm has
  have ta_ := Ne.symm hat
  have ts_ := Ne.symm hst
  have q1 : ¬ a = nx := by omega
  have p1 : ¬ nx = a := by omega
  have q2 : ¬ a = nx + 1 := by omega
  have p2 : ¬ nx + 1 = a := by omega
  have la1 : a < nx + 1 := by omega
  have la2 : a < nx + 1 + 1 := by omega
  have q3 : ¬ s = nx := by omega
  have p3 : ¬ nx = s := by omega
  have q4 : ¬ s = nx + 1 := by omega
  have p4 : ¬ nx + 1 = s := by omega
  have ls1 : s < nx + 1 := by omega
  have ls2 : s < nx + 1 + 1 := by omega
  have q5 : ¬ t = nx := by omega
  have p5 : ¬ nx = t := by omega
  have q6 : ¬ t = nx + 1 := by omega
  have p6 : ¬ nx + 1 = t := by omega
  have lt1 : t < nx + 1 := by omega
  have lt2 : t < nx + 1 + 1 := by omega
  refine gen_of_aw (rs := []) [] [] [] mixed Try.func25 rfl (by kernel_rfl) (by kernel_rfl) (by simp [Try.ntmps25]) rfl ?_
  simp [refB, refO, refX, has, sa_, hat, ta_, hst, ts_, q1, p1, q2, p2, ha, la1, la2, q3, p3, q4, p4, hs, ls1, ls2, q5, p5, q6, p6, ht, lt1, lt2]
  refine aw_loop (fun k : Nat => k ≤ S.length) (fun k => [(0, .obj a 0), (2, .p (.int k))]) (fun k => ⟨refB a s t (abN S k) (flN W k), [], nx⟩) (fun k => S.length - k) 0 (by simp) _ (AS.le_refl _ _)
    (leN_id (by simp [refB, refO, refX, abN, flN, has, sa_, hat, ta_, hst, ts_, q1, p1, q2, p2, ha, la1, la2, q3, p3, q4, p4, hs, ls1, ls2, q5, p5, q6, p6, ht, lt1, lt2])) ?_
  intro k hk
  by_cases c : k < S.length
  · have cw : k < W.length := by omega
    have c3 : k ≤ S.length := by omega
    have c4 : k + 1 ≤ S.length := by omega
    have ce : (abN S k).getD k 0 = S.getD k 0 := by rw [abN_get S k hk, if_neg (by omega)]
    rw [getD_at (by simpa using c), getD_at c] at ce
    have st1 : ∀ v, (List.map (AV.p ∘ PC.int) (abN S k)).take k ++ v :: (List.map (AV.p ∘ PC.int) (abN S k)).drop (k + 1) = (List.map (AV.p ∘ PC.int) (abN S k)).set k v := row_set _ _ (by simpa using c)
    have st2 : ∀ v, (List.map (AV.p ∘ PC.bool) (flN W k)).take k ++ v :: (List.map (AV.p ∘ PC.bool) (flN W k)).drop (k + 1) = (List.map (AV.p ∘ PC.bool) (flN W k)).set k v := row_set _ _ (by simpa using cw)
    have r2 : (List.map (AV.p ∘ PC.bool) (flN W k)).set k (.p (.bool false)) = List.map (AV.p ∘ PC.bool) (flN W (k + 1)) := by simp [flN]
    by_cases z : S[k] = 2
    · have r1 : (List.map (AV.p ∘ PC.int) (abN S k)).set k (.p (.int 0)) = List.map (AV.p ∘ PC.int) (abN S (k + 1)) := by simp [abN, getD_at c, z, -List.getD_eq_getElem?_getD]
      simp [refB, refO, refX, c, cw, c3, c4, hW, ce, z, has, sa_, hat, ta_, hst, ts_, q1, p1, q2, p2, ha, la1, la2, q3, p3, q4, p4, hs, ls1, ls2, q5, p5, q6, p6, ht, lt1, lt2]
      refine ⟨k + 1, by omega, by omega, leN_id ?_⟩
      simp [st1, st2, r1, r2, has, sa_, hat, ta_, hst, ts_, q1, p1, q2, p2, ha, la1, la2, q3, p3, q4, p4, hs, ls1, ls2, q5, p5, q6, p6, ht, lt1, lt2, wrap64_id (n := (k : Int) + 1) (by omega) (by omega)]
    · have zd : (S[k] == 2) = false := by simp [z]
      have r1 : abN S k = abN S (k + 1) := by
        simp only [abN, getD_at c, if_neg z]; rw [← ce]; simp
      simp [refB, refO, refX, c, cw, c3, c4, hW, ce, zd, has, sa_, hat, ta_, hst, ts_, q1, p1, q2, p2, ha, la1, la2, q3, p3, q4, p4, hs, ls1, ls2, q5, p5, q6, p6, ht, lt1, lt2]
      refine ⟨k + 1, by omega, by omega, leN_id ?_⟩
      rw [← r1]
      simp [st1, st2, r2, has, sa_, hat, ta_, hst, ts_, q1, p1, q2, p2, ha, la1, la2, q3, p3, q4, p4, hs, ls1, ls2, q5, p5, q6, p6, ht, lt1, lt2, wrap64_id (n := (k : Int) + 1) (by omega) (by omega)]
  · obtain rfl : k = S.length := by omega
    simp [refB, refO, refX, has, sa_, hat, ta_, hst, ts_, q1, p1, q2, p2, ha, la1, la2, q3, p3, q4, p4, hs, ls1, ls2, q5, p5, q6, p6, ht, lt1, lt2, Try.results25]
    exact ⟨[], by simp [refO, refX, has, sa_, hat, ta_, hst, ts_, q1, p1, q2, p2, ha, la1, la2, q3, p3, q4, p4, hs, ls1, ls2, q5, p5, q6, p6, ht, lt1, lt2]⟩

set_option maxHeartbeats 4000000 in
set_option maxRecDepth 100000 in
theorem rcommit24 (a s t nx : Nat) (h : IdR a s t nx) (S : List Int) (W : List Bool) (hl : S.length ≤ 1000) (hW : W.length = S.length) :
    GenC Try.prog 24 [.obj a 0] ⟨refB a s t S W, [], nx⟩ (.agg true []) ⟨refB a s t (cmN S W S.length) (flN W S.length), [], nx⟩ := by
  obtain ⟨ha, hs, ht, has, hat, hst⟩ := h
  have sa_ := Ne.symm has
  have ta_ := Ne.symm hat
  have ts_ := Ne.symm hst
  have q1 : ¬ a = nx := by omega
  have p1 : ¬ nx = a := by omega
  have q2 : ¬ a = nx + 1 := by omega
  have p2 : ¬ nx + 1 = a := by omega
  have la1 : a < nx + 1 := by omega
  have la2 : a < nx + 1 + 1 := by omega
  have q3 : ¬ s = nx := by omega
  have p3 : ¬ nx = s := by omega
  have q4 : ¬ s = nx + 1 := by omega
  have p4 : ¬ nx + 1 = s := by omega
  have ls1 : s < nx + 1 := by omega
  have ls2 : s < nx + 1 + 1 := by omega
  have q5 : ¬ t = nx := by omega
  have p5 : ¬ nx = t := by omega
  have q6 : ¬ t = nx + 1 := by omega
  have p6 : ¬ nx + 1 = t := by omega
  have lt1 : t < nx + 1 := by omega
  have lt2 : t < nx + 1 + 1 := by omega
  refine gen_of_aw (rs := []) [] [] [] mixed Try.func24 rfl (by kernel_rfl) (by kernel_rfl) (by simp [Try.ntmps24]) rfl ?_
  simp [refB, refO, refX, has, sa_, hat, ta_, hst, ts_, q1, p1, q2, p2, ha, la1, la2, q3, p3, q4, p4, hs, ls1, ls2, q5, p5, q6, p6, ht, lt1, lt2]
  refine aw_loop (fun k : Nat => k ≤ S.length) (fun k => [(0, .obj a 0), (2, .p (.int k))]) (fun k => ⟨refB a s t (cmN S W k) (flN W k), [], nx⟩) (fun k => S.length - k) 0 (by simp) _ (AS.le_refl _ _)
    (leN_id (by simp [refB, refO, refX, cmN, flN, has, sa_, hat, ta_, hst, ts_, q1, p1, q2, p2, ha, la1, la2, q3, p3, q4, p4, hs, ls1, ls2, q5, p5, q6, p6, ht, lt1, lt2])) ?_
  intro k hk
  by_cases c : k < S.length
  · have cw : k < W.length := by omega
    have c3 : k ≤ S.length := by omega
    have c4 : k + 1 ≤ S.length := by omega
    have ce : (cmN S W k).getD k 0 = S.getD k 0 := by rw [cmN_get S W k hk, if_neg (by omega)]
    rw [getD_at (by simpa using c), getD_at c] at ce
    have cf : (flN W k).getD k false = W.getD k false := by rw [flN_get W k (by omega), if_neg (by omega)]
    rw [getD_at (by simpa using cw), getD_at cw] at cf
    have st1 : ∀ v, (List.map (AV.p ∘ PC.int) (cmN S W k)).take k ++ v :: (List.map (AV.p ∘ PC.int) (cmN S W k)).drop (k + 1) = (List.map (AV.p ∘ PC.int) (cmN S W k)).set k v := row_set _ _ (by simpa using c)
    have st2 : ∀ v, (List.map (AV.p ∘ PC.bool) (flN W k)).take k ++ v :: (List.map (AV.p ∘ PC.bool) (flN W k)).drop (k + 1) = (List.map (AV.p ∘ PC.bool) (flN W k)).set k v := row_set _ _ (by simpa using cw)
    have r2 : (List.map (AV.p ∘ PC.bool) (flN W k)).set k (.p (.bool false)) = List.map (AV.p ∘ PC.bool) (flN W (k + 1)) := by simp [flN]
    cases zw : W[k] with
    | true =>
      have r1 : (List.map (AV.p ∘ PC.int) (cmN S W k)).set k (.p (.int 0)) = List.map (AV.p ∘ PC.int) (cmN S W (k + 1)) := by simp [cmN, cmV, getD_at c, getD_at cw, zw, -List.getD_eq_getElem?_getD]
      simp [refB, refO, refX, c, cw, c3, c4, hW, ce, cf, zw, st1, has, sa_, hat, ta_, hst, ts_, q1, p1, q2, p2, ha, la1, la2, q3, p3, q4, p4, hs, ls1, ls2, q5, p5, q6, p6, ht, lt1, lt2]
      refine ⟨k + 1, by omega, by omega, leN_id ?_⟩
      simp [st1, st2, r1, r2, has, sa_, hat, ta_, hst, ts_, q1, p1, q2, p2, ha, la1, la2, q3, p3, q4, p4, hs, ls1, ls2, q5, p5, q6, p6, ht, lt1, lt2, wrap64_id (n := (k : Int) + 1) (by omega) (by omega)]
    | false =>
      by_cases z : S[k] = 2
      · have r1 : (List.map (AV.p ∘ PC.int) (cmN S W k)).set k (.p (.int 1)) = List.map (AV.p ∘ PC.int) (cmN S W (k + 1)) := by simp [cmN, cmV, getD_at c, getD_at cw, zw, z, -List.getD_eq_getElem?_getD]
        simp [refB, refO, refX, c, cw, c3, c4, hW, ce, cf, zw, z, has, sa_, hat, ta_, hst, ts_, q1, p1, q2, p2, ha, la1, la2, q3, p3, q4, p4, hs, ls1, ls2, q5, p5, q6, p6, ht, lt1, lt2]
        refine ⟨k + 1, by omega, by omega, leN_id ?_⟩
        simp [st1, st2, r1, r2, has, sa_, hat, ta_, hst, ts_, q1, p1, q2, p2, ha, la1, la2, q3, p3, q4, p4, hs, ls1, ls2, q5, p5, q6, p6, ht, lt1, lt2, wrap64_id (n := (k : Int) + 1) (by omega) (by omega)]
      · have zd : (S[k] == 2) = false := by simp [z]
        have r1 : cmN S W k = cmN S W (k + 1) := by
          simp only [cmN, cmV, getD_at c, getD_at cw, zw, if_neg z]; rw [← ce]; simp
        simp [refB, refO, refX, c, cw, c3, c4, hW, ce, cf, zw, zd, has, sa_, hat, ta_, hst, ts_, q1, p1, q2, p2, ha, la1, la2, q3, p3, q4, p4, hs, ls1, ls2, q5, p5, q6, p6, ht, lt1, lt2]
        refine ⟨k + 1, by omega, by omega, leN_id ?_⟩
        rw [← r1]
        simp [st1, st2, r2, has, sa_, hat, ta_, hst, ts_, q1, p1, q2, p2, ha, la1, la2, q3, p3, q4, p4, hs, ls1, ls2, q5, p5, q6, p6, ht, lt1, lt2, wrap64_id (n := (k : Int) + 1) (by omega) (by omega)]
  · obtain rfl : k = S.length := by omega
    simp [refB, refO, refX, has, sa_, hat, ta_, hst, ts_, q1, p1, q2, p2, ha, la1, la2, q3, p3, q4, p4, hs, ls1, ls2, q5, p5, q6, p6, ht, lt1, lt2, Try.results24]
    exact ⟨[], by simp [refO, refX, has, sa_, hat, ta_, hst, ts_, q1, p1, q2, p2, ha, la1, la2, q3, p3, q4, p4, hs, ls1, ls2, q5, p5, q6, p6, ht, lt1, lt2]⟩
end Go.Av
