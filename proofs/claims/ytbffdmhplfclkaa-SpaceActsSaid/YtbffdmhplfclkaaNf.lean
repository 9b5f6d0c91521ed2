/- What the document's map computes: extents apart, held, given, taken, in pieces. -/
import Derived.Test.YtbffdmhplfclkaaNe
set_option linter.all false
/-! part P16ag -/
namespace Go.Av
open Go.Proofs

/-- so many sectors from x on: none is seen, and they are seen now -/
def runE (sn : List Bool) (x : Nat) : Nat → Option (List Bool)
  | 0 => some sn
  | k + 1 => if sn.getD x false = true then none else runE (sn.set x true) (x + 1) k
def apartE (n : Nat) (sn : List Bool) : List (Int × Int) → Bool
  | [] => true
  | e :: es => okE n e && match runE sn e.1.toNat e.2.toNat with
    | none => false
    | some sn' => apartE n sn' es
@[simp] theorem lims_rep {m n : Nat} {x : PC} : AV.lim.lims m (List.replicate n (.p x)) = true := by
  rw [← List.map_replicate]; exact lims_p
@[simp] theorem rens_rep {ρ : Nat → Nat} {n : Nat} {x : PC} : AV.ren.rens ρ (List.replicate n (.p x)) = List.replicate n (.p x) := by
  rw [← List.map_replicate]; exact rens_p
@[simp] theorem lims_set {m k : Nat} {l : List AV} {x : AV} (h : AV.lim.lims m l = true) (hx : x.lim m = true) : AV.lim.lims m (l.set k x) = true := by
  rw [lims_all] at h ⊢
  rw [List.all_eq_true] at h ⊢
  intro y hy
  rcases List.mem_or_eq_of_mem_set hy with hy | rfl
  · exact h y hy
  · exact hx
theorem getE_at {l : List Bool} {k : Nat} (h : k < l.length) : l.getD k false = l[k] := by simp [List.getD, h]

set_option maxHeartbeats 4000000 in
set_option maxRecDepth 100000 in
theorem apart43 (S : List Int) (W : List Bool) (hn : S.length ≤ 65536) (es : List (Int × Int)) (hl : es.length ≤ 900) :
    PureC Try.prog 43 [.ref (refPC S W), .sl (es.map extI)] (.bool (apartE S.length (List.replicate S.length false) es)) := by
  obtain ⟨n, hnn⟩ : ∃ n, n = S.length := ⟨_, rfl⟩
  refine pure_of_aw (ys := [_]) [] [(6, [(1, .r 1), (5, .r 1), (10, .r 1), (20, .r 1), (27, .r 1)])] [(1, 1)] mixed Try.func43 rfl (by kernel_rfl) (by kernel_rfl) (by simp [Try.ntmps43]) rfl ?_
  simp [← hnn]
  refine ⟨by omega, by unfold maxLen; omega, ?_⟩
  refine aw_loop (fun x : Nat × List Bool => x.1 ≤ es.length ∧ x.2.length = n ∧ apartE n (List.replicate n false) es = apartE n x.2 (es.drop x.1))
    (fun x => [(0, .p (.ref (refPC S W))), (1, .p (.sl (es.map extI))), (5, .view 0 0 n 1 (some n)), (6, .p (.int x.1))])
    (fun x => ⟨[(0, rowT x.2)], [], 1⟩) (fun x => es.length - x.1) (0, List.replicate n false) ⟨by simp, by simp, by simp⟩ _
    (AS.le_refl _ _) (leN_id (by simp)) ?_
  rintro ⟨k, sn⟩ ⟨h1, h2, h5⟩
  simp only at h1 h2 h5
  by_cases c0 : k < es.length
  · obtain ⟨e, hxe⟩ : ∃ e, es[k] = e := ⟨_, rfl⟩
    obtain ⟨u, v⟩ := e
    have h6 := h5
    rw [List.drop_eq_getElem_cons c0, hxe] at h6
    simp only [apartE] at h6
    by_cases c1 : u < 0
    · have : okE n (u, v) = false := by simp [okE]; omega
      rw [this] at h6
      simp [c0, hxe, c1, h6, Try.results43]
    by_cases c2 : v < 1
    · have : okE n (u, v) = false := by simp [okE]; omega
      rw [this] at h6
      simp [c0, hxe, c1, c2, h6, Try.results43]
    by_cases c3 : (n : Int) ≤ u
    · have : okE n (u, v) = false := by simp [okE]; omega
      rw [this] at h6
      simp [c0, hxe, c1, c2, ← hnn, c3, h6, Try.results43]
    have w1 : IntKind.i64.wrap ((n : Int) - u) = (n : Int) - u := wrap64_id (by omega) (by omega)
    by_cases c4 : (n : Int) - u < v
    · have : okE n (u, v) = false := by simp [okE]; omega
      rw [this] at h6
      simp [c0, hxe, c1, c2, ← hnn, c3, w1, c4, h6, Try.results43]
    have hok : okE n (u, v) = true := by simp [okE]; omega
    rw [hok] at h6
    obtain ⟨p, rfl⟩ : ∃ p : Nat, u = p := ⟨u.toNat, by omega⟩
    obtain ⟨q, rfl⟩ : ∃ q : Nat, v = q := ⟨v.toNat, by omega⟩
    simp only [Int.toNat_natCast, Bool.true_and] at h6
    have c3' : ¬ n ≤ p := by omega
    have w2 : IntKind.i64.wrap ((p : Int) + (q : Int)) = (p : Int) + (q : Int) := wrap64_id (by omega) (by omega)
    simp [c0, hxe, c1, c2, c3, c3', ← hnn, w1, c4]
    refine aw_loop (fun y : Nat × List Bool => p ≤ y.1 ∧ y.1 ≤ p + q ∧ y.2.length = n ∧ runE sn p q = runE y.2 y.1 (p + q - y.1))
      (fun y => [(0, .p (.ref (refPC S W))), (1, .p (.sl (es.map extI))), (5, .view 0 0 n 1 (some n)), (6, .p (.int k)), (7, .obj 1 0), (8, .p (.int y.1))])
      (fun y => ⟨[(1, ⟨29, 2, [.p (.int p), .p (.int q)]⟩), (0, rowT y.2)], [], 2⟩) (fun y => p + q - y.1) (p, sn) ⟨by simp, by simp, h2, by rw [show p + q - p = q by omega]⟩ _
      (AS.le_refl _ _) (leN_id (by simp)) ?_
    rintro ⟨j, tn⟩ ⟨j1, j2, j3, j4⟩
    simp only at j1 j2 j3 j4
    by_cases d : j < p + q
    · have d1 : (j : Int) < (p : Int) + (q : Int) := by omega
      have d2 : j < tn.length := by omega
      have d3 : j < n := by omega
      have d4 : j ≤ n := by omega
      have d5 : j + 1 ≤ n := by omega
      rw [show p + q - j = (p + q - (j + 1)) + 1 by omega, runE, getE_at d2] at j4
      cases hb : tn[j] with
      | true =>
        rw [hb] at j4
        simp at j4
        rw [j4] at h6
        simp [w2, d1, d2, d3, d4, d5, j3, hb, h6, Try.results43]
      | false =>
        rw [hb] at j4
        simp at j4
        simp [w2, d1, d2, d3, d4, d5, j3, hb]
        refine ⟨j + 1, tn.set j true, ⟨by omega, by omega, by simpa using j3, j4⟩, by omega, leN_id ?_⟩
        have st2 : ∀ v, (List.map (AV.p ∘ PC.bool) tn).take j ++ v :: (List.map (AV.p ∘ PC.bool) tn).drop (j + 1) = (List.map (AV.p ∘ PC.bool) tn).set j v := row_set _ _ (by simpa using d2)
        simp [st2, wrap64_id (n := (j : Int) + 1) (by omega) (by omega)]
    · obtain rfl : j = p + q := by omega
      have d1 : ¬ ((p : Int) + (q : Int) < (p : Int) + (q : Int)) := by omega
      rw [show p + q - (p + q) = 0 by omega, runE] at j4
      rw [j4] at h6
      simp [w2, d1]
      refine ⟨k + 1, tn, ⟨by omega, j3, h6⟩, by omega, leN_id ?_⟩
      simp [wrap64_id (n := (k : Int) + 1) (by omega) (by omega)]
  · have e : k = es.length := by omega
    subst e
    simp [apartE] at h5
    simp [h5, Try.results43]
end Go.Av

/-! part P16ah -/
namespace Go.Av
open Go.Proofs

def anyIn (q : Nat → Bool) (x : Nat) : Nat → Bool
  | 0 => false
  | k + 1 => q x || anyIn q (x + 1) k
def anyEs (q : Nat → Bool) (es : List (Int × Int)) : Bool := es.any fun e => anyIn q e.1.toNat e.2.toNat
theorem apartE_ok {n : Nat} : ∀ {sn : List Bool} {es : List (Int × Int)}, apartE n sn es = true → ∀ e ∈ es, okE n e = true
  | _, [], _, e, he => by simp at he
  | sn, a :: es, h, e, he => by
    simp only [apartE, Bool.and_eq_true] at h
    rcases List.mem_cons.1 he with rfl | he
    · exact h.1
    · revert h
      cases runE sn a.1.toNat a.2.toNat with
      | none => intro h; exact absurd h.2 (by simp)
      | some sn' => intro h; exact apartE_ok h.2 e he
theorem okE_nat {n : Nat} {e : Int × Int} (h : okE n e = true) : ∃ p q : Nat, e = ((p : Int), (q : Int)) ∧ 1 ≤ q ∧ p + q ≤ n := by
  obtain ⟨u, v⟩ := e
  simp [okE] at h
  exact ⟨u.toNat, v.toNat, by simp; omega, by omega, by omega⟩

def qHold (S : List Int) (i : Nat) : Bool := S.getD i 0 != 0
def qGive (S : List Int) (W : List Bool) (i : Nat) : Bool := (S.getD i 0 == 0) || W.getD i false
def rholdB (S : List Int) (es : List (Int × Int)) : Bool := apartE S.length (List.replicate S.length false) es && !anyEs (qHold S) es
def rgiveB (S : List Int) (W : List Bool) (es : List (Int × Int)) : Bool := apartE S.length (List.replicate S.length false) es && !anyEs (qGive S W) es
def setEs {α : Type} (S : List α) (es : List (Int × Int)) (v : α) : List α := es.foldl (fun S e => setR S e.1.toNat e.2.toNat v) S
@[simp] theorem setEs_len {α : Type} (v : α) : ∀ (es : List (Int × Int)) (S : List α), (setEs S es v).length = S.length
  | [], _ => rfl
  | e :: es, S => by simp [setEs] at *; rw [show List.foldl (fun S e => setR S e.1.toNat e.2.toNat v) (setR S e.1.toNat e.2.toNat v) es = setEs (setR S e.1.toNat e.2.toNat v) es v from rfl, setEs_len v es]; simp
theorem setEs_take {α : Type} (v : α) (S : List α) (es : List (Int × Int)) (k : Nat) (hk : k < es.length) : setEs S (es.take (k + 1)) v = setR (setEs S (es.take k) v) es[k].1.toNat es[k].2.toNat v := by
  unfold setEs; rw [List.take_succ_eq_append_getElem hk, List.foldl_append]; rfl

set_option maxHeartbeats 4000000 in
set_option maxRecDepth 100000 in
theorem rhold22 (a s t nx : Nat) (h : IdR a s t nx) (S : List Int) (W : List Bool) (hl : S.length ≤ 1000) (hW : W.length = S.length) (es : List (Int × Int)) (hes : es.length ≤ 900) :
    GenC Try.prog 22 [.obj a 0, .p (.sl (es.map extI))] ⟨refB a s t S W, [], nx⟩ (.p (.bool (rholdB S es))) ⟨refB a s t (if rholdB S es = true then setEs S es 1 else S) W, [], nx⟩ := by
  have h43 := apart43 S W (by omega) es hes
  have hh := h
  obtain ⟨ha, hs, ht, has, hat, hst⟩ := h
  have sa_ := Ne.symm has
  have ta_ := Ne.symm hat
  have ts_ := Ne.symm hst
  have q1 : ¬ a = nx := by omega
  have p1 : ¬ nx = a := by omega
  have q2 : ¬ a = nx + 1 := by omega
  have p2 : ¬ nx + 1 = a := by omega
  have la1 : a < nx + 1 := by omega
  have la2 : a < nx + 1 + 1 := by omega
  have q3 : ¬ s = nx := by omega
  have p3 : ¬ nx = s := by omega
  have q4 : ¬ s = nx + 1 := by omega
  have p4 : ¬ nx + 1 = s := by omega
  have ls1 : s < nx + 1 := by omega
  have ls2 : s < nx + 1 + 1 := by omega
  have q5 : ¬ t = nx := by omega
  have p5 : ¬ nx = t := by omega
  have q6 : ¬ t = nx + 1 := by omega
  have p6 : ¬ nx + 1 = t := by omega
  have lt1 : t < nx + 1 := by omega
  have lt2 : t < nx + 1 + 1 := by omega
  refine gen_of_aw (rs := [_]) [] [] [] mixed Try.func22 rfl (by kernel_rfl) (by kernel_rfl) (by simp [Try.ntmps22]) rfl ?_
  simp [refB, refO, refX, has, sa_, hat, ta_, hst, ts_, q1, p1, q2, p2, ha, la1, la2, q3, p3, q4, p4, hs, ls1, ls2, q5, p5, q6, p6, ht, lt1, lt2]
  refine bcall_of0 h43 ⟨bor_ref (s := s) (t := t) (by simp [refO, refX]) (by simp [has, sa_, hat, ta_, hst, ts_, q1, p1, q2, p2, ha, la1, la2, q3, p3, q4, p4, hs, ls1, ls2, q5, p5, q6, p6, ht, lt1, lt2]) (by simp [has, sa_, hat, ta_, hst, ts_, q1, p1, q2, p2, ha, la1, la2, q3, p3, q4, p4, hs, ls1, ls2, q5, p5, q6, p6, ht, lt1, lt2]) hW, by simp [borF, all2], trivial⟩ rfl ?_
  unfold rholdB
  cases hap : apartE S.length (List.replicate S.length false) es with
  | false =>
    simp [Try.results22]
    exact ⟨[], by simp [refO, refX, has, sa_, hat, ta_, hst, ts_, q1, p1, q2, p2, ha, la1, la2, q3, p3, q4, p4, hs, ls1, ls2, q5, p5, q6, p6, ht, lt1, lt2]⟩
  | true =>
  have hok := apartE_ok hap
  simp
  refine aw_loop (fun k : Nat => k ≤ es.length ∧ anyEs (qHold S) es = anyEs (qHold S) (es.drop k)) (fun k => [(0, .obj a 0), (1, .p (.sl (es.map extI))), (5, .p (.int k))])
    (fun _ => ⟨refB a s t S W, [], nx⟩) (fun k => es.length - k) 0 (by simp) _ (AS.le_refl _ _) (leN_id (by simp [refB, refO, refX, has, sa_, hat, ta_, hst, ts_, q1, p1, q2, p2, ha, la1, la2, q3, p3, q4, p4, hs, ls1, ls2, q5, p5, q6, p6, ht, lt1, lt2])) ?_
  rintro k ⟨k1, k2⟩
  by_cases c : k < es.length
  · obtain ⟨p, q, hpq, q1, q2⟩ := okE_nat (hok es[k] (by simp))
    have w2 : IntKind.i64.wrap ((p : Int) + (q : Int)) = (p : Int) + (q : Int) := wrap64_id (by omega) (by omega)
    rw [List.drop_eq_getElem_cons c, hpq] at k2
    simp only [anyEs, List.any_cons, Int.toNat_natCast] at k2
    simp [c, hpq]
    refine aw_loop (fun j : Nat => p ≤ j ∧ j ≤ p + q ∧ anyIn (qHold S) p q = anyIn (qHold S) j (p + q - j)) (fun j => [(0, .obj a 0), (1, .p (.sl (es.map extI))), (5, .p (.int k)), (6, .p (.int j))])
      (fun _ => ⟨refB a s t S W, [], nx⟩) (fun j => p + q - j) p ⟨by omega, by omega, by rw [show p + q - p = q by omega]⟩ _ (AS.le_refl _ _) (leN_id (by simp [refB, refO, refX, has, sa_, hat, ta_, hst, ts_, q1, p1, q2, p2, ha, la1, la2, q3, p3, q4, p4, hs, ls1, ls2, q5, p5, q6, p6, ht, lt1, lt2])) ?_
    rintro j ⟨j1, j2, j3⟩
    by_cases d : j < p + q
    · have d1 : (j : Int) < (p : Int) + (q : Int) := by omega
      have d2 : j < S.length := by omega
      have d4 : j ≤ S.length := by omega
      have d5 : j + 1 ≤ S.length := by omega
      rw [show p + q - j = (p + q - (j + 1)) + 1 by omega, anyIn] at j3
      have hq : qHold S j = (S[j] != 0) := by unfold qHold; rw [getD_at d2]
      cases hb : (S[j] != 0) with
      | true =>
        rw [hq, hb] at j3
        rw [j3] at k2
        simp at k2
        have k2' : anyEs (qHold S) es = true := by unfold anyEs; simpa using k2
        simp [refB, refO, refX, c, hpq, w2, d1, d2, d4, d5, hb, k2', has, sa_, hat, ta_, hst, ts_, q1, p1, q2, p2, ha, la1, la2, q3, p3, q4, p4, hs, ls1, ls2, q5, p5, q6, p6, ht, lt1, lt2, Try.results22]
        exact ⟨[], by simp [refO, refX, has, sa_, hat, ta_, hst, ts_, q1, p1, q2, p2, ha, la1, la2, q3, p3, q4, p4, hs, ls1, ls2, q5, p5, q6, p6, ht, lt1, lt2]⟩
      | false =>
        rw [hq, hb] at j3
        simp at j3
        simp [refB, refO, refX, c, hpq, w2, d1, d2, d4, d5, hb, has, sa_, hat, ta_, hst, ts_, q1, p1, q2, p2, ha, la1, la2, q3, p3, q4, p4, hs, ls1, ls2, q5, p5, q6, p6, ht, lt1, lt2]
        refine ⟨j + 1, ⟨by omega, by omega, j3⟩, by omega, leN_id ?_⟩
        simp [refO, refX, has, sa_, hat, ta_, hst, ts_, q1, p1, q2, p2, ha, la1, la2, q3, p3, q4, p4, hs, ls1, ls2, q5, p5, q6, p6, ht, lt1, lt2, wrap64_id (n := (j : Int) + 1) (by omega) (by omega)]
    · obtain rfl : j = p + q := by omega
      have d1 : ¬ ((p : Int) + (q : Int) < (p : Int) + (q : Int)) := by omega
      rw [show p + q - (p + q) = 0 by omega, anyIn] at j3
      rw [j3] at k2
      simp [c, hpq, w2, d1]
      refine ⟨k + 1, ⟨by omega, by unfold anyEs; simpa using k2⟩, by omega, leN_id ?_⟩
      simp [wrap64_id (n := (k : Int) + 1) (by omega) (by omega), refB, refO, refX, has, sa_, hat, ta_, hst, ts_, q1, p1, q2, p2, ha, la1, la2, q3, p3, q4, p4, hs, ls1, ls2, q5, p5, q6, p6, ht, lt1, lt2]
  · obtain rfl : k = es.length := by omega
    have k3 : anyEs (qHold S) es = false := by rw [k2]; simp [anyEs]
    simp [k3]
    refine aw_loop (fun k : Nat => k ≤ es.length) (fun k => [(0, .obj a 0), (1, .p (.sl (es.map extI))), (7, .p (.int k))])
      (fun k => ⟨refB a s t (setEs S (es.take k) 1) W, [], nx⟩) (fun k => es.length - k) 0 (by simp) _ (AS.le_refl _ _) (leN_id (by simp [refB, refO, refX, setEs, has, sa_, hat, ta_, hst, ts_, q1, p1, q2, p2, ha, la1, la2, q3, p3, q4, p4, hs, ls1, ls2, q5, p5, q6, p6, ht, lt1, lt2])) ?_
    intro k hk
    by_cases c : k < es.length
    · obtain ⟨p, q, hpq, q1, q2⟩ := okE_nat (hok es[k] (by simp))
      simp [c, hpq]
      refine gcall_of0 (set42 a s t nx hh (setEs S (es.take k) 1) W (by simpa using hl) (p, q) (by simpa using q2) 1) (by simp) (by simp [sub1, refB, refO, refX, has, sa_, hat, ta_, hst, ts_, q1, p1, q2, p2, ha, la1, la2, q3, p3, q4, p4, hs, ls1, ls2, q5, p5, q6, p6, ht, lt1, lt2]) trivial rfl ?_
      have e := setEs_take 1 S es k c
      rw [hpq] at e
      simp only [Int.toNat_natCast] at e
      rw [← e]
      simp [refB, refO, refX, has, sa_, hat, ta_, hst, ts_, q1, p1, q2, p2, ha, la1, la2, q3, p3, q4, p4, hs, ls1, ls2, q5, p5, q6, p6, ht, lt1, lt2]
      refine ⟨k + 1, by omega, by omega, leN_id ?_⟩
      simp [wrap64_id (n := (k : Int) + 1) (by omega) (by omega), refB, refO, refX, has, sa_, hat, ta_, hst, ts_, q1, p1, q2, p2, ha, la1, la2, q3, p3, q4, p4, hs, ls1, ls2, q5, p5, q6, p6, ht, lt1, lt2]
    · obtain rfl : k = es.length := by omega
      simp [Try.results22]
      exact ⟨[], by simp [refB, refO, refX, has, sa_, hat, ta_, hst, ts_, q1, p1, q2, p2, ha, la1, la2, q3, p3, q4, p4, hs, ls1, ls2, q5, p5, q6, p6, ht, lt1, lt2]⟩
end Go.Av

/-! part P16ai -/
namespace Go.Av
open Go.Proofs

set_option maxHeartbeats 4000000 in
set_option maxRecDepth 100000 in
theorem rgive23 (a s t nx : Nat) (h : IdR a s t nx) (S : List Int) (W : List Bool) (hl : S.length ≤ 1000) (hW : W.length = S.length) (es : List (Int × Int)) (hes : es.length ≤ 900) :
    GenC Try.prog 23 [.obj a 0, .p (.sl (es.map extI))] ⟨refB a s t S W, [], nx⟩ (.p (.bool (rgiveB S W es))) ⟨refB a s t S (if rgiveB S W es = true then setEs W es true else W), [], nx⟩ := by
  have h43 := apart43 S W (by omega) es hes
  have hh := h
  obtain ⟨ha, hs, ht, has, hat, hst⟩ := h
  have sa_ := Ne.symm has
  have ta_ := Ne.symm hat
  have ts_ := Ne.symm hst
  have q1 : ¬ a = nx := by omega
  have p1 : ¬ nx = a := by omega
  have q2 : ¬ a = nx + 1 := by omega
  have p2 : ¬ nx + 1 = a := by omega
  have la1 : a < nx + 1 := by omega
  have la2 : a < nx + 1 + 1 := by omega
  have q3 : ¬ s = nx := by omega
  have p3 : ¬ nx = s := by omega
  have q4 : ¬ s = nx + 1 := by omega
  have p4 : ¬ nx + 1 = s := by omega
  have ls1 : s < nx + 1 := by omega
  have ls2 : s < nx + 1 + 1 := by omega
  have q5 : ¬ t = nx := by omega
  have p5 : ¬ nx = t := by omega
  have q6 : ¬ t = nx + 1 := by omega
  have p6 : ¬ nx + 1 = t := by omega
  have lt1 : t < nx + 1 := by omega
  have lt2 : t < nx + 1 + 1 := by omega
  refine gen_of_aw (rs := [_]) [] [] [] mixed Try.func23 rfl (by kernel_rfl) (by kernel_rfl) (by simp [Try.ntmps23]) rfl ?_
  simp [refB, refO, refX, has, sa_, hat, ta_, hst, ts_, q1, p1, q2, p2, ha, la1, la2, q3, p3, q4, p4, hs, ls1, ls2, q5, p5, q6, p6, ht, lt1, lt2]
  refine bcall_of0 h43 ⟨bor_ref (s := s) (t := t) (by simp [refO, refX]) (by simp [has, sa_, hat, ta_, hst, ts_, q1, p1, q2, p2, ha, la1, la2, q3, p3, q4, p4, hs, ls1, ls2, q5, p5, q6, p6, ht, lt1, lt2]) (by simp [has, sa_, hat, ta_, hst, ts_, q1, p1, q2, p2, ha, la1, la2, q3, p3, q4, p4, hs, ls1, ls2, q5, p5, q6, p6, ht, lt1, lt2]) hW, by simp [borF, all2], trivial⟩ rfl ?_
  unfold rgiveB
  cases hap : apartE S.length (List.replicate S.length false) es with
  | false =>
    simp [Try.results23]
    exact ⟨[], by simp [refO, refX, has, sa_, hat, ta_, hst, ts_, q1, p1, q2, p2, ha, la1, la2, q3, p3, q4, p4, hs, ls1, ls2, q5, p5, q6, p6, ht, lt1, lt2]⟩
  | true =>
  have hok := apartE_ok hap
  simp
  refine aw_loop (fun k : Nat => k ≤ es.length ∧ anyEs (qGive S W) es = anyEs (qGive S W) (es.drop k)) (fun k => [(0, .obj a 0), (1, .p (.sl (es.map extI))), (5, .p (.int k))])
    (fun _ => ⟨refB a s t S W, [], nx⟩) (fun k => es.length - k) 0 (by simp) _ (AS.le_refl _ _) (leN_id (by simp [refB, refO, refX, has, sa_, hat, ta_, hst, ts_, q1, p1, q2, p2, ha, la1, la2, q3, p3, q4, p4, hs, ls1, ls2, q5, p5, q6, p6, ht, lt1, lt2])) ?_
  rintro k ⟨k1, k2⟩
  by_cases c : k < es.length
  · obtain ⟨p, q, hpq, q1, q2⟩ := okE_nat (hok es[k] (by simp))
    have w2 : IntKind.i64.wrap ((p : Int) + (q : Int)) = (p : Int) + (q : Int) := wrap64_id (by omega) (by omega)
    rw [List.drop_eq_getElem_cons c, hpq] at k2
    simp only [anyEs, List.any_cons, Int.toNat_natCast] at k2
    simp [c, hpq]
    refine aw_loop (fun j : Nat => p ≤ j ∧ j ≤ p + q ∧ anyIn (qGive S W) p q = anyIn (qGive S W) j (p + q - j)) (fun j => [(0, .obj a 0), (1, .p (.sl (es.map extI))), (5, .p (.int k)), (6, .p (.int j))])
      (fun _ => ⟨refB a s t S W, [], nx⟩) (fun j => p + q - j) p ⟨by omega, by omega, by rw [show p + q - p = q by omega]⟩ _ (AS.le_refl _ _) (leN_id (by simp [refB, refO, refX, has, sa_, hat, ta_, hst, ts_, q1, p1, q2, p2, ha, la1, la2, q3, p3, q4, p4, hs, ls1, ls2, q5, p5, q6, p6, ht, lt1, lt2])) ?_
    rintro j ⟨j1, j2, j3⟩
    by_cases d : j < p + q
    · have d1 : (j : Int) < (p : Int) + (q : Int) := by omega
      have d2 : j < S.length := by omega
      have dw : j < W.length := by omega
      have d4 : j ≤ S.length := by omega
      have d5 : j + 1 ≤ S.length := by omega
      rw [show p + q - j = (p + q - (j + 1)) + 1 by omega, anyIn] at j3
      have hq : qGive S W j = ((S[j] == 0) || W[j]) := by unfold qGive; rw [getD_at d2, getD_at dw]
      cases hb : (S[j] == 0) with
      | true =>
        rw [hq, hb] at j3
        rw [Bool.true_or, Bool.true_or] at j3
        rw [j3] at k2
        simp at k2
        have k2' : anyEs (qGive S W) es = true := by unfold anyEs; simpa using k2
        simp [refB, refO, refX, c, hpq, w2, d1, d2, d4, d5, hb, k2', has, sa_, hat, ta_, hst, ts_, q1, p1, q2, p2, ha, la1, la2, q3, p3, q4, p4, hs, ls1, ls2, q5, p5, q6, p6, ht, lt1, lt2, Try.results23]
        exact ⟨[], by simp [refO, refX, has, sa_, hat, ta_, hst, ts_, q1, p1, q2, p2, ha, la1, la2, q3, p3, q4, p4, hs, ls1, ls2, q5, p5, q6, p6, ht, lt1, lt2]⟩
      | false =>
        cases hw : W[j] with
        | true =>
          rw [hq, hb, hw] at j3
          rw [Bool.false_or, Bool.true_or] at j3
          rw [j3] at k2
          simp at k2
          have k2' : anyEs (qGive S W) es = true := by unfold anyEs; simpa using k2
          simp [refB, refO, refX, c, hpq, w2, d1, d2, dw, d4, d5, hb, hw, hW, k2', has, sa_, hat, ta_, hst, ts_, q1, p1, q2, p2, ha, la1, la2, q3, p3, q4, p4, hs, ls1, ls2, q5, p5, q6, p6, ht, lt1, lt2, Try.results23]
          exact ⟨[], by simp [refO, refX, has, sa_, hat, ta_, hst, ts_, q1, p1, q2, p2, ha, la1, la2, q3, p3, q4, p4, hs, ls1, ls2, q5, p5, q6, p6, ht, lt1, lt2]⟩
        | false =>
          rw [hq, hb, hw] at j3
          simp at j3
          simp [refB, refO, refX, c, hpq, w2, d1, d2, dw, d4, d5, hb, hw, hW, has, sa_, hat, ta_, hst, ts_, q1, p1, q2, p2, ha, la1, la2, q3, p3, q4, p4, hs, ls1, ls2, q5, p5, q6, p6, ht, lt1, lt2]
          refine ⟨j + 1, ⟨by omega, by omega, j3⟩, by omega, leN_id ?_⟩
          simp [refO, refX, has, sa_, hat, ta_, hst, ts_, q1, p1, q2, p2, ha, la1, la2, q3, p3, q4, p4, hs, ls1, ls2, q5, p5, q6, p6, ht, lt1, lt2, wrap64_id (n := (j : Int) + 1) (by omega) (by omega)]
    · obtain rfl : j = p + q := by omega
      have d1 : ¬ ((p : Int) + (q : Int) < (p : Int) + (q : Int)) := by omega
      rw [show p + q - (p + q) = 0 by omega, anyIn] at j3
      rw [j3] at k2
      simp [c, hpq, w2, d1]
      refine ⟨k + 1, ⟨by omega, by unfold anyEs; simpa using k2⟩, by omega, leN_id ?_⟩
      simp [wrap64_id (n := (k : Int) + 1) (by omega) (by omega), refB, refO, refX, has, sa_, hat, ta_, hst, ts_, q1, p1, q2, p2, ha, la1, la2, q3, p3, q4, p4, hs, ls1, ls2, q5, p5, q6, p6, ht, lt1, lt2]
  · obtain rfl : k = es.length := by omega
    have k3 : anyEs (qGive S W) es = false := by rw [k2]; simp [anyEs]
    simp [k3]
    refine aw_loop (fun k : Nat => k ≤ es.length) (fun k => [(0, .obj a 0), (1, .p (.sl (es.map extI))), (7, .p (.int k))])
      (fun k => ⟨refB a s t S (setEs W (es.take k) true), [], nx⟩) (fun k => es.length - k) 0 (by simp) _ (AS.le_refl _ _) (leN_id (by simp [refB, refO, refX, setEs, has, sa_, hat, ta_, hst, ts_, q1, p1, q2, p2, ha, la1, la2, q3, p3, q4, p4, hs, ls1, ls2, q5, p5, q6, p6, ht, lt1, lt2])) ?_
    intro k hk
    by_cases c : k < es.length
    · obtain ⟨p, q, hpq, q1, q2⟩ := okE_nat (hok es[k] (by simp))
      have w2 : IntKind.i64.wrap ((p : Int) + (q : Int)) = (p : Int) + (q : Int) := wrap64_id (by omega) (by omega)
      have e := setEs_take true W es k c
      rw [hpq] at e
      simp only [Int.toNat_natCast] at e
      simp [c, hpq]
      obtain ⟨V, hV⟩ : ∃ V, V = setEs W (es.take k) true := ⟨_, rfl⟩
      have hVl : V.length = S.length := by rw [hV]; simp [hW]
      rw [← hV] at e ⊢
      refine aw_loop (fun j : Nat => p ≤ j ∧ j ≤ p + q) (fun j => [(0, .obj a 0), (1, .p (.sl (es.map extI))), (7, .p (.int k)), (8, .p (.int j))])
        (fun j => ⟨refB a s t S (setR V p (j - p) true), [], nx⟩) (fun j => p + q - j) p ⟨by omega, by omega⟩ _ (AS.le_refl _ _) (leN_id (by simp [refB, refO, refX, setR, has, sa_, hat, ta_, hst, ts_, q1, p1, q2, p2, ha, la1, la2, q3, p3, q4, p4, hs, ls1, ls2, q5, p5, q6, p6, ht, lt1, lt2])) ?_
      rintro j ⟨j1, j2⟩
      by_cases d : j < p + q
      · have d1 : (j : Int) < (p : Int) + (q : Int) := by omega
        have d2 : j < S.length := by omega
        have d4 : j ≤ S.length := by omega
        have d5 : j + 1 ≤ S.length := by omega
        have hst2 : setR V p (j + 1 - p) true = (setR V p (j - p) true).set j true := by
          obtain ⟨i, rfl⟩ : ∃ i, j = p + i := ⟨j - p, by omega⟩
          rw [show p + i + 1 - p = i + 1 by omega, show p + i - p = i by omega]; rfl
        have hset : (List.map (AV.p ∘ PC.bool) (setR V p (j - p) true)).take j ++ AV.p (PC.bool true) :: (List.map (AV.p ∘ PC.bool) (setR V p (j - p) true)).drop (j + 1) = List.map (AV.p ∘ PC.bool) (setR V p (j + 1 - p) true) := by
          rw [row_set _ _ (by simp; omega), hst2]; simp
        simp [refB, refO, refX, c, hpq, w2, d1, d2, d4, d5, hVl, has, sa_, hat, ta_, hst, ts_, q1, p1, q2, p2, ha, la1, la2, q3, p3, q4, p4, hs, ls1, ls2, q5, p5, q6, p6, ht, lt1, lt2]
        refine ⟨j + 1, ⟨by omega, by omega⟩, by omega, leN_id ?_⟩
        simp [hset, has, sa_, hat, ta_, hst, ts_, q1, p1, q2, p2, ha, la1, la2, q3, p3, q4, p4, hs, ls1, ls2, q5, p5, q6, p6, ht, lt1, lt2, wrap64_id (n := (j : Int) + 1) (by omega) (by omega)]
      · obtain rfl : j = p + q := by omega
        have d1 : ¬ ((p : Int) + (q : Int) < (p : Int) + (q : Int)) := by omega
        rw [show p + q - p = q by omega, ← e]
        simp [c, hpq, w2, d1]
        refine ⟨k + 1, by omega, by omega, leN_id ?_⟩
        simp [wrap64_id (n := (k : Int) + 1) (by omega) (by omega), refB, refO, refX, has, sa_, hat, ta_, hst, ts_, q1, p1, q2, p2, ha, la1, la2, q3, p3, q4, p4, hs, ls1, ls2, q5, p5, q6, p6, ht, lt1, lt2]
    · obtain rfl : k = es.length := by omega
      simp [Try.results23]
      exact ⟨[], by simp [refB, refO, refX, has, sa_, hat, ta_, hst, ts_, q1, p1, q2, p2, ha, la1, la2, q3, p3, q4, p4, hs, ls1, ls2, q5, p5, q6, p6, ht, lt1, lt2]⟩
end Go.Av

/-! part P16aj -/
namespace Go.Av
open Go.Proofs

theorem rnew19 (nx n : Nat) (h2 : n ≤ 65536) : GenC Try.prog 19 [.p (.int n)] ⟨[], [], nx⟩ (.obj (nx + 2) 0) ⟨refB (nx + 2) nx (nx + 1) (List.replicate n 0) (List.replicate n false), [], nx + 3⟩ := by
  have key : GenC Try.prog 19 [.p (.int n)] ⟨[], [], nx⟩ (.obj (nx + 2) 0) ⟨[(nx + 2, ⟨59, 2, [.view nx 0 n 1 (some n), .view (nx + 1) 0 n 1 (some n)]⟩), (nx, rowI (List.replicate n 0)), (nx + 1, rowT (List.replicate n false))], [], nx + 3⟩ := by
    refine gen_of_awT (rs := [_]) [8] [] [] [(1, (.br 0 (.br 1 (.br 2 (.br 3 (.br 4 (.br 5 (.br 6 .lf .lf) .lf) .lf) .lf) .lf) (.br 2 (.br 1 (.br 3 (.br 4 (.br 5 (.br 6 .lf .lf) .lf) .lf) .lf) (.br 3 (.br 1 (.br 4 (.br 5 (.br 6 .lf .lf) .lf) .lf) .lf) .lf)) .lf)) (.br 2 (.br 0 (.br 1 (.br 3 (.br 4 (.br 5 (.br 6 .lf .lf) .lf) .lf) .lf) (.br 3 (.br 1 (.br 4 (.br 5 (.br 6 .lf .lf) .lf) .lf) .lf) .lf)) (.br 3 (.br 0 (.br 1 (.br 4 (.br 5 (.br 6 .lf .lf) .lf) .lf) .lf) .lf) .lf)) .lf)))] mixed Try.func19 rfl (by kernel_rfl) (by kernel_rfl) (by simp [Try.ntmps19]) rfl ?_
    simp [Try.results19]
    have b1 : 8 * n ≤ 281474976710656 := by omega
    have b2 : n ≤ maxLen := by unfold maxLen; omega
    have b3 : n ≤ 281474976710656 := by omega
    simp only [b1, b2, b3, true_and]
    repeat' apply And.intro
    all_goals first | (refine ⟨[], ?_⟩; simp; done) | (refine ⟨[(nx, nx + 1), (nx + 1, nx)], ?_⟩; simp; intro a b h; omega)
  have k1 : GenC Try.prog 19 [.p (.int n)] ⟨[], [], nx⟩ (.obj (nx + 2) 0) ⟨[(nx + 2, ⟨59, 2, [.view nx 0 n 1 none, .view (nx + 1) 0 n 1 (some n)]⟩), (nx, rowI (List.replicate n 0)), (nx + 1, rowT (List.replicate n false))], [], nx + 3⟩ := by
    simpa [Tb.setOb, del] using gen_weakO (id := nx + 2) (j := 0) (x := .view nx 0 n 1 (some n)) (ob := ⟨59, 2, [.view nx 0 n 1 (some n), .view (nx + 1) 0 n 1 (some n)]⟩) (.view nx 0 n 1 none) key (by simp [lk]) rfl (by simp)
  have k2 : GenC Try.prog 19 [.p (.int n)] ⟨[], [], nx⟩ (.obj (nx + 2) 0) ⟨[(nx + 2, ⟨59, 2, [.view nx 0 n 1 none, .view (nx + 1) 0 n 1 none]⟩), (nx, rowI (List.replicate n 0)), (nx + 1, rowT (List.replicate n false))], [], nx + 3⟩ := by
    simpa [Tb.setOb, del] using gen_weakO (id := nx + 2) (j := 1) (x := .view (nx + 1) 0 n 1 (some n)) (ob := ⟨59, 2, [.view nx 0 n 1 none, .view (nx + 1) 0 n 1 (some n)]⟩) (.view (nx + 1) 0 n 1 none) k1 (by simp [lk]) rfl (by simp)
  simpa [refB, refO, refX] using k2

set_option maxHeartbeats 4000000 in
set_option maxRecDepth 100000 in
theorem rtake20n (a s t nx : Nat) (h : IdR a s t nx) (S : List Int) (W : List Bool) (hl : S.length ≤ 1000) (hW : W.length = S.length) (k : Int) (hk : k < 1 ∨ ∀ e ∈ runsL S, ¬ k ≤ (e.2 : Int)) :
    GenC Try.prog 20 [.obj a 0, .p (.int k)] ⟨refB a s t S W, [], nx⟩ (.agg true [.p (extP (0, 0)), .p (.bool false)]) ⟨refB a s t S W, [], nx⟩ := by
  have h28 := runs28 a s t (nx + 1) ⟨by have := h.ha; omega, by have := h.hs; omega, by have := h.ht; omega, h.has, h.hat, h.hst⟩ S W (by omega)
  have hlen := (runs_ok S).len
  obtain ⟨ha, hs, ht, has, hat, hst⟩ := h
  have sa_ := Ne.symm has
  have ta_ := Ne.symm hat
  have ts_ := Ne.symm hst
  have q1 : ¬ a = nx := by omega
  have p1 : ¬ nx = a := by omega
  have q2 : ¬ a = nx + 1 := by omega
  have p2 : ¬ nx + 1 = a := by omega
  have q3 : ¬ a = nx + 1 + 1 := by omega
  have p3 : ¬ nx + 1 + 1 = a := by omega
  have q4 : ¬ a = nx + 1 + 1 + 1 := by omega
  have p4 : ¬ nx + 1 + 1 + 1 = a := by omega
  have la1 : a < nx + 1 := by omega
  have la2 : a < nx + 1 + 1 := by omega
  have la3 : a < nx + 1 + 1 + 1 := by omega
  have la4 : a < nx + 1 + 1 + 1 + 1 := by omega
  have q5 : ¬ s = nx := by omega
  have p5 : ¬ nx = s := by omega
  have q6 : ¬ s = nx + 1 := by omega
  have p6 : ¬ nx + 1 = s := by omega
  have q7 : ¬ s = nx + 1 + 1 := by omega
  have p7 : ¬ nx + 1 + 1 = s := by omega
  have q8 : ¬ s = nx + 1 + 1 + 1 := by omega
  have p8 : ¬ nx + 1 + 1 + 1 = s := by omega
  have ls1 : s < nx + 1 := by omega
  have ls2 : s < nx + 1 + 1 := by omega
  have ls3 : s < nx + 1 + 1 + 1 := by omega
  have ls4 : s < nx + 1 + 1 + 1 + 1 := by omega
  have q9 : ¬ t = nx := by omega
  have p9 : ¬ nx = t := by omega
  have q10 : ¬ t = nx + 1 := by omega
  have p10 : ¬ nx + 1 = t := by omega
  have q11 : ¬ t = nx + 1 + 1 := by omega
  have p11 : ¬ nx + 1 + 1 = t := by omega
  have q12 : ¬ t = nx + 1 + 1 + 1 := by omega
  have p12 : ¬ nx + 1 + 1 + 1 = t := by omega
  have lt1 : t < nx + 1 := by omega
  have lt2 : t < nx + 1 + 1 := by omega
  have lt3 : t < nx + 1 + 1 + 1 := by omega
  have lt4 : t < nx + 1 + 1 + 1 + 1 := by omega
  refine gen_of_aw (rs := [_, _]) [] [] [] mixed Try.func20 rfl (by kernel_rfl) (by kernel_rfl) (by simp [Try.ntmps20]) rfl ?_
  simp [refB, refO, refX, has, sa_, hat, ta_, hst, ts_, q1, p1, q2, p2, q3, p3, q4, p4, ha, la1, la2, la3, la4, q5, p5, q6, p6, q7, p7, q8, p8, hs, ls1, ls2, ls3, ls4, q9, p9, q10, p10, q11, p11, q12, p12, ht, lt1, lt2, lt3, lt4]
  refine gcall_of0 h28 (by simp) (by simp [sub1, refB, refO, refX, has, sa_, hat, ta_, hst, ts_, q1, p1, q2, p2, q3, p3, q4, p4, ha, la1, la2, la3, la4, q5, p5, q6, p6, q7, p7, q8, p8, hs, ls1, ls2, ls3, ls4, q9, p9, q10, p10, q11, p11, q12, p12, ht, lt1, lt2, lt3, lt4]) trivial rfl ?_
  simp [refB, refO, refX, has, sa_, hat, ta_, hst, ts_, q1, p1, q2, p2, q3, p3, q4, p4, ha, la1, la2, la3, la4, q5, p5, q6, p6, q7, p7, q8, p8, hs, ls1, ls2, ls3, ls4, q9, p9, q10, p10, q11, p11, q12, p12, ht, lt1, lt2, lt3, lt4]
  refine aw_loop (fun j : Nat => j ≤ (runsL S).length) (fun j => [(0, .obj a 0), (1, .p (.int k)), (4, .obj nx 0), (6, .view (nx + 1) 0 (runsL S).length 2 none), (7, .p (.int j))])
    (fun _ => ⟨(nx, ⟨29, 2, [.p (.int 0), .p (.int 0)]⟩) :: (nx + 1, rowO (runsL S)) :: refB a s t S W, [], nx + 1 + 1⟩) (fun j => (runsL S).length - j) 0 (by simp) _ (AS.le_refl _ _) (leN_id (by simp [refB, refO, refX, has, sa_, hat, ta_, hst, ts_, q1, p1, q2, p2, q3, p3, q4, p4, ha, la1, la2, la3, la4, q5, p5, q6, p6, q7, p7, q8, p8, hs, ls1, ls2, ls3, ls4, q9, p9, q10, p10, q11, p11, q12, p12, ht, lt1, lt2, lt3, lt4])) ?_
  intro j hj
  by_cases c : j < (runsL S).length
  · have g := cellsL_at c
    have hlt9 : j * 2 < (cellsL (runsL S)).length := by simp; omega
    have g1 : (cellsL (runsL S))[j * 2] = PC.int (runsL S)[j].1 := (List.getElem_eq_iff hlt9).2 g.1
    have hlt8 : j * 2 + 1 < (cellsL (runsL S)).length := by simp; omega
    have g2 : (cellsL (runsL S))[j * 2 + 1] = PC.int (runsL S)[j].2 := (List.getElem_eq_iff hlt8).2 g.2
    have c9 : j * 2 + 1 < (runsL S).length * 2 := by omega
    have c2 : k < 1 ∨ ¬ k ≤ ((runsL S)[j].2 : Int) := by
      rcases hk with hk | hk
      · exact .inl hk
      · exact .inr (hk _ (List.getElem_mem c))
    by_cases c3 : k < 1
    · have c4 : decide (1 ≤ k) = false := by simp; omega
      simp [refB, refO, refX, has, sa_, hat, ta_, hst, ts_, q1, p1, q2, p2, q3, p3, q4, p4, ha, la1, la2, la3, la4, q5, p5, q6, p6, q7, p7, q8, p8, hs, ls1, ls2, ls3, ls4, q9, p9, q10, p10, q11, p11, q12, p12, ht, lt1, lt2, lt3, lt4, g1, g2, c9, c, c4, c3]
      refine ⟨j + 1, by omega, by omega, leN_id ?_⟩
      simp [refB, refO, refX, has, sa_, hat, ta_, hst, ts_, q1, p1, q2, p2, q3, p3, q4, p4, ha, la1, la2, la3, la4, q5, p5, q6, p6, q7, p7, q8, p8, hs, ls1, ls2, ls3, ls4, q9, p9, q10, p10, q11, p11, q12, p12, ht, lt1, lt2, lt3, lt4, wrap64_id (n := (j : Int) + 1) (by omega) (by omega)]
    · have c4 : 1 ≤ k := by omega
      have c5 : ¬ k ≤ ((runsL S)[j].2 : Int) := by rcases c2 with c2 | c2; exact absurd c2 c3; exact c2
      have c6 : ((runsL S)[j].2 : Int) < k := by omega
      simp [refB, refO, refX, has, sa_, hat, ta_, hst, ts_, q1, p1, q2, p2, q3, p3, q4, p4, ha, la1, la2, la3, la4, q5, p5, q6, p6, q7, p7, q8, p8, hs, ls1, ls2, ls3, ls4, q9, p9, q10, p10, q11, p11, q12, p12, ht, lt1, lt2, lt3, lt4, g1, g2, c9, c, c3, c4, c5, c6]
      refine ⟨j + 1, by omega, by omega, leN_id ?_⟩
      simp [refB, refO, refX, has, sa_, hat, ta_, hst, ts_, q1, p1, q2, p2, q3, p3, q4, p4, ha, la1, la2, la3, la4, q5, p5, q6, p6, q7, p7, q8, p8, hs, ls1, ls2, ls3, ls4, q9, p9, q10, p10, q11, p11, q12, p12, ht, lt1, lt2, lt3, lt4, wrap64_id (n := (j : Int) + 1) (by omega) (by omega)]
  · obtain rfl : j = (runsL S).length := by omega
    simp [refB, refO, refX, has, sa_, hat, ta_, hst, ts_, q1, p1, q2, p2, q3, p3, q4, p4, ha, la1, la2, la3, la4, q5, p5, q6, p6, q7, p7, q8, p8, hs, ls1, ls2, ls3, ls4, q9, p9, q10, p10, q11, p11, q12, p12, ht, lt1, lt2, lt3, lt4, Try.results20]
    exact ⟨[], by simp [refO, refX, has, sa_, hat, ta_, hst, ts_, q1, p1, q2, p2, q3, p3, q4, p4, ha, la1, la2, la3, la4, q5, p5, q6, p6, q7, p7, q8, p8, hs, ls1, ls2, ls3, ls4, q9, p9, q10, p10, q11, p11, q12, p12, ht, lt1, lt2, lt3, lt4]⟩

set_option maxHeartbeats 4000000 in
set_option maxRecDepth 100000 in
theorem rtake20s (a s t nx : Nat) (h : IdR a s t nx) (S : List Int) (W : List Bool) (hl : S.length ≤ 1000) (hW : W.length = S.length) (k i : Nat) (hk : 1 ≤ k) (hi : i < (runsL S).length) (hki : k ≤ (runsL S)[i].2) (hlt : ∀ p (hp : p < (runsL S).length), p < i → (runsL S)[p].2 < k) :
    GenC Try.prog 20 [.obj a 0, .p (.int k)] ⟨refB a s t S W, [], nx⟩ (.agg true [.p (extP ((runsL S)[i].1, k)), .p (.bool true)]) ⟨refB a s t (setR S (runsL S)[i].1 k 2) W, [], nx⟩ := by
  have h28 := runs28 a s t (nx + 1) ⟨by have := h.ha; omega, by have := h.hs; omega, by have := h.ht; omega, h.has, h.hat, h.hst⟩ S W (by omega)
  have hlen := (runs_ok S).len
  have htop := (runs_ok S).top _ (List.getElem_mem hi)
  obtain ⟨ha, hs, ht, has, hat, hst⟩ := h
  have sa_ := Ne.symm has
  have ta_ := Ne.symm hat
  have ts_ := Ne.symm hst
  have q1 : ¬ a = nx := by omega
  have p1 : ¬ nx = a := by omega
  have q2 : ¬ a = nx + 1 := by omega
  have p2 : ¬ nx + 1 = a := by omega
  have q3 : ¬ a = nx + 1 + 1 := by omega
  have p3 : ¬ nx + 1 + 1 = a := by omega
  have q4 : ¬ a = nx + 1 + 1 + 1 := by omega
  have p4 : ¬ nx + 1 + 1 + 1 = a := by omega
  have la1 : a < nx + 1 := by omega
  have la2 : a < nx + 1 + 1 := by omega
  have la3 : a < nx + 1 + 1 + 1 := by omega
  have la4 : a < nx + 1 + 1 + 1 + 1 := by omega
  have q5 : ¬ s = nx := by omega
  have p5 : ¬ nx = s := by omega
  have q6 : ¬ s = nx + 1 := by omega
  have p6 : ¬ nx + 1 = s := by omega
  have q7 : ¬ s = nx + 1 + 1 := by omega
  have p7 : ¬ nx + 1 + 1 = s := by omega
  have q8 : ¬ s = nx + 1 + 1 + 1 := by omega
  have p8 : ¬ nx + 1 + 1 + 1 = s := by omega
  have ls1 : s < nx + 1 := by omega
  have ls2 : s < nx + 1 + 1 := by omega
  have ls3 : s < nx + 1 + 1 + 1 := by omega
  have ls4 : s < nx + 1 + 1 + 1 + 1 := by omega
  have q9 : ¬ t = nx := by omega
  have p9 : ¬ nx = t := by omega
  have q10 : ¬ t = nx + 1 := by omega
  have p10 : ¬ nx + 1 = t := by omega
  have q11 : ¬ t = nx + 1 + 1 := by omega
  have p11 : ¬ nx + 1 + 1 = t := by omega
  have q12 : ¬ t = nx + 1 + 1 + 1 := by omega
  have p12 : ¬ nx + 1 + 1 + 1 = t := by omega
  have lt1 : t < nx + 1 := by omega
  have lt2 : t < nx + 1 + 1 := by omega
  have lt3 : t < nx + 1 + 1 + 1 := by omega
  have lt4 : t < nx + 1 + 1 + 1 + 1 := by omega
  refine gen_of_aw (rs := [_, _]) [] [] [] mixed Try.func20 rfl (by kernel_rfl) (by kernel_rfl) (by simp [Try.ntmps20]) rfl ?_
  simp [refB, refO, refX, has, sa_, hat, ta_, hst, ts_, q1, p1, q2, p2, q3, p3, q4, p4, ha, la1, la2, la3, la4, q5, p5, q6, p6, q7, p7, q8, p8, hs, ls1, ls2, ls3, ls4, q9, p9, q10, p10, q11, p11, q12, p12, ht, lt1, lt2, lt3, lt4]
  refine gcall_of0 h28 (by simp) (by simp [sub1, refB, refO, refX, has, sa_, hat, ta_, hst, ts_, q1, p1, q2, p2, q3, p3, q4, p4, ha, la1, la2, la3, la4, q5, p5, q6, p6, q7, p7, q8, p8, hs, ls1, ls2, ls3, ls4, q9, p9, q10, p10, q11, p11, q12, p12, ht, lt1, lt2, lt3, lt4]) trivial rfl ?_
  simp [refB, refO, refX, has, sa_, hat, ta_, hst, ts_, q1, p1, q2, p2, q3, p3, q4, p4, ha, la1, la2, la3, la4, q5, p5, q6, p6, q7, p7, q8, p8, hs, ls1, ls2, ls3, ls4, q9, p9, q10, p10, q11, p11, q12, p12, ht, lt1, lt2, lt3, lt4]
  refine aw_loop (fun j : Nat => j ≤ i) (fun j => [(0, .obj a 0), (1, .p (.int k)), (4, .obj nx 0), (6, .view (nx + 1) 0 (runsL S).length 2 none), (7, .p (.int j))])
    (fun _ => ⟨(nx, ⟨29, 2, [.p (.int 0), .p (.int 0)]⟩) :: (nx + 1, rowO (runsL S)) :: refB a s t S W, [], nx + 1 + 1⟩) (fun j => i - j) 0 (by simp) _ (AS.le_refl _ _) (leN_id (by simp [refB, refO, refX, has, sa_, hat, ta_, hst, ts_, q1, p1, q2, p2, q3, p3, q4, p4, ha, la1, la2, la3, la4, q5, p5, q6, p6, q7, p7, q8, p8, hs, ls1, ls2, ls3, ls4, q9, p9, q10, p10, q11, p11, q12, p12, ht, lt1, lt2, lt3, lt4])) ?_
  intro j hj
  have c : j < (runsL S).length := by omega
  have g := cellsL_at c
  have hlt9 : j * 2 < (cellsL (runsL S)).length := by simp; omega
  have g1 : (cellsL (runsL S))[j * 2] = PC.int (runsL S)[j].1 := (List.getElem_eq_iff hlt9).2 g.1
  have hlt8 : j * 2 + 1 < (cellsL (runsL S)).length := by simp; omega
  have g2 : (cellsL (runsL S))[j * 2 + 1] = PC.int (runsL S)[j].2 := (List.getElem_eq_iff hlt8).2 g.2
  have c9 : j * 2 + 1 < (runsL S).length * 2 := by omega
  have c3 : ¬ k < 1 := by omega
  have c3' : k ≠ 0 := by omega
  have c4 : (1 : Int) ≤ (k : Int) := by omega
  by_cases d : j < i
  · have hj2 := hlt j c d
    have c5 : ¬ k ≤ (runsL S)[j].2 := by omega
    simp [refB, refO, refX, has, sa_, hat, ta_, hst, ts_, q1, p1, q2, p2, q3, p3, q4, p4, ha, la1, la2, la3, la4, q5, p5, q6, p6, q7, p7, q8, p8, hs, ls1, ls2, ls3, ls4, q9, p9, q10, p10, q11, p11, q12, p12, ht, lt1, lt2, lt3, lt4, g1, g2, c9, c, c3, c3', c4, hj2, c5]
    refine ⟨j + 1, by omega, by omega, leN_id ?_⟩
    simp [refB, refO, refX, has, sa_, hat, ta_, hst, ts_, q1, p1, q2, p2, q3, p3, q4, p4, ha, la1, la2, la3, la4, q5, p5, q6, p6, q7, p7, q8, p8, hs, ls1, ls2, ls3, ls4, q9, p9, q10, p10, q11, p11, q12, p12, ht, lt1, lt2, lt3, lt4, wrap64_id (n := (j : Int) + 1) (by omega) (by omega)]
  · obtain rfl : j = i := by omega
    have c5 : ¬ (runsL S)[j].2 < k := by omega
    simp [refB, refO, refX, has, sa_, hat, ta_, hst, ts_, q1, p1, q2, p2, q3, p3, q4, p4, ha, la1, la2, la3, la4, q5, p5, q6, p6, q7, p7, q8, p8, hs, ls1, ls2, ls3, ls4, q9, p9, q10, p10, q11, p11, q12, p12, ht, lt1, lt2, lt3, lt4, g1, g2, c9, c, c3, c3', c4, hki, c5]
    refine gcall_of0 (set42 a s t (nx + 1 + 1 + 1) ⟨by omega, by omega, by omega, has, hat, hst⟩ S W hl ((runsL S)[j].1, k) (by simp only; omega) 2) (by simp) (by simp [sub1, refB, refO, refX, has, sa_, hat, ta_, hst, ts_, q1, p1, q2, p2, q3, p3, q4, p4, ha, la1, la2, la3, la4, q5, p5, q6, p6, q7, p7, q8, p8, hs, ls1, ls2, ls3, ls4, q9, p9, q10, p10, q11, p11, q12, p12, ht, lt1, lt2, lt3, lt4]) trivial rfl ?_
    simp [refB, refO, refX, has, sa_, hat, ta_, hst, ts_, q1, p1, q2, p2, q3, p3, q4, p4, ha, la1, la2, la3, la4, q5, p5, q6, p6, q7, p7, q8, p8, hs, ls1, ls2, ls3, ls4, q9, p9, q10, p10, q11, p11, q12, p12, ht, lt1, lt2, lt3, lt4, Try.results20]
    exact ⟨[], by simp [refO, refX, has, sa_, hat, ta_, hst, ts_, q1, p1, q2, p2, q3, p3, q4, p4, ha, la1, la2, la3, la4, q5, p5, q6, p6, q7, p7, q8, p8, hs, ls1, ls2, ls3, ls4, q9, p9, q10, p10, q11, p11, q12, p12, ht, lt1, lt2, lt3, lt4]⟩
end Go.Av

/-! part P16ak -/
namespace Go.Av
open Go.Proofs

theorem szL_append (A B : List Ext) : szL (A ++ B) = szL A + szL B := by simp [szL, List.sum_append]
theorem szL_runs (S : List Int) : ∀ k, szL (runsN S k) = zeros S k
  | 0 => rfl
  | k + 1 => by
    obtain ⟨i1, i2, i3⟩ := runs_inv S k
    have ih := szL_runs S k
    have hz : zeros S (k + 1) = zeros S k + if S.getD k 1 = 0 then 1 else 0 := by simp [zeros, cntN]
    rw [hz, ← ih]
    simp only [runsN, stepR]
    split
    · split
      · rename_i hp
        obtain ⟨A, y, hL, hy⟩ := nr_last (k := k - 1) i1 (fun e he => by have := i2 e he; omega) ((i3 _).2 ⟨by omega, hp.2⟩)
        rw [hL]
        simp only [List.dropLast_concat, List.getLastD_concat, szL_append]
        simp [szL]; omega
      · rw [szL_append]; simp [szL]
    · rfl
/-- extents that are taken anew -/
def setX (S : List Int) (es : List Ext) : List Int := es.foldl (fun S e => setR S e.1 e.2 2) S
@[simp] theorem setX_len : ∀ (es : List Ext) (S : List Int), (setX S es).length = S.length
  | [], _ => rfl
  | e :: es, S => by rw [show setX S (e :: es) = setX (setR S e.1 e.2 2) es from rfl, setX_len es]; simp
theorem setX_take (S : List Int) (es : List Ext) (k : Nat) (hk : k < es.length) : setX S (es.take (k + 1)) = setR (setX S (es.take k)) es[k].1 es[k].2 2 := by
  unfold setX; rw [List.take_succ_eq_append_getElem hk, List.foldl_append]; rfl

set_option maxHeartbeats 8000000 in
set_option maxRecDepth 100000 in
theorem rpieces21 (a s t nx : Nat) (h : IdR a s t nx) (S : List Int) (W : List Bool) (hl : S.length ≤ 1000) (hW : W.length = S.length) (K most : Int) :
    GenC Try.prog 21 [.obj a 0, .p (.int K), .p (.int most)] ⟨refB a s t S W, [], nx⟩ (.agg true [.p (setP (if piecesB (runsL S) K most = true then pcsL (runsL S) K.toNat else [])), .p (.bool (piecesB (runsL S) K most))])
      ⟨refB a s t (if piecesB (runsL S) K most = true then setX S (pcsL (runsL S) K.toNat) else S) W, [], nx⟩ := by
  have h26 := rfree26 S W (by omega)
  have h28 := runs28 a s t nx h S W (by omega)
  have hok := runs_ok S
  have hlen := hok.len
  have hz := szL_runs S S.length
  rw [show runsN S S.length = runsL S from rfl] at hz
  generalize runsL S = L at *
  rw [← hz] at h26
  clear hz
  have hh := h
  obtain ⟨ha, hs, ht, has, hat, hst⟩ := h
  have sa_ := Ne.symm has
  have ta_ := Ne.symm hat
  have ts_ := Ne.symm hst
  have q1 : ¬ a = nx := by omega
  have p1 : ¬ nx = a := by omega
  have q2 : ¬ a = nx + 1 := by omega
  have p2 : ¬ nx + 1 = a := by omega
  have q3 : ¬ a = nx + 1 + 1 := by omega
  have p3 : ¬ nx + 1 + 1 = a := by omega
  have q4 : ¬ a = nx + 1 + 1 + 1 := by omega
  have p4 : ¬ nx + 1 + 1 + 1 = a := by omega
  have la1 : a < nx + 1 := by omega
  have la2 : a < nx + 1 + 1 := by omega
  have la3 : a < nx + 1 + 1 + 1 := by omega
  have la4 : a < nx + 1 + 1 + 1 + 1 := by omega
  have q5 : ¬ s = nx := by omega
  have p5 : ¬ nx = s := by omega
  have q6 : ¬ s = nx + 1 := by omega
  have p6 : ¬ nx + 1 = s := by omega
  have q7 : ¬ s = nx + 1 + 1 := by omega
  have p7 : ¬ nx + 1 + 1 = s := by omega
  have q8 : ¬ s = nx + 1 + 1 + 1 := by omega
  have p8 : ¬ nx + 1 + 1 + 1 = s := by omega
  have ls1 : s < nx + 1 := by omega
  have ls2 : s < nx + 1 + 1 := by omega
  have ls3 : s < nx + 1 + 1 + 1 := by omega
  have ls4 : s < nx + 1 + 1 + 1 + 1 := by omega
  have q9 : ¬ t = nx := by omega
  have p9 : ¬ nx = t := by omega
  have q10 : ¬ t = nx + 1 := by omega
  have p10 : ¬ nx + 1 = t := by omega
  have q11 : ¬ t = nx + 1 + 1 := by omega
  have p11 : ¬ nx + 1 + 1 = t := by omega
  have q12 : ¬ t = nx + 1 + 1 + 1 := by omega
  have p12 : ¬ nx + 1 + 1 + 1 = t := by omega
  have lt1 : t < nx + 1 := by omega
  have lt2 : t < nx + 1 + 1 := by omega
  have lt3 : t < nx + 1 + 1 + 1 := by omega
  have lt4 : t < nx + 1 + 1 + 1 + 1 := by omega
  by_cases c1 : K < 1
  · have hB : piecesB L K most = false := by simp [piecesB]; intro h; omega
    refine gen_of_aw (rs := [_, _]) [] [] [] mixed Try.func21 rfl (by kernel_rfl) (by kernel_rfl) (by simp [Try.ntmps21]) rfl ?_
    simp [hB, c1, Try.results21]
    exact ⟨[], by simp [refB, refO, refX, has, sa_, hat, ta_, hst, ts_, q1, p1, q2, p2, q3, p3, q4, p4, ha, la1, la2, la3, la4, q5, p5, q6, p6, q7, p7, q8, p8, hs, ls1, ls2, ls3, ls4, q9, p9, q10, p10, q11, p11, q12, p12, ht, lt1, lt2, lt3, lt4]⟩
  by_cases c2 : (szL L : Int) < K
  · have hB : piecesB L K most = false := by simp [piecesB]; intro h1 h2; omega
    refine gen_of_aw (rs := [_, _]) [] [] [] mixed Try.func21 rfl (by kernel_rfl) (by kernel_rfl) (by simp [Try.ntmps21]) rfl ?_
    simp [hB, c1]
    refine bcall_of0 h26 ⟨bor_ref (s := s) (t := t) (by simp [refB, refO, refX, has, sa_, hat, ta_, hst, ts_, q1, p1, q2, p2, q3, p3, q4, p4, ha, la1, la2, la3, la4, q5, p5, q6, p6, q7, p7, q8, p8, hs, ls1, ls2, ls3, ls4, q9, p9, q10, p10, q11, p11, q12, p12, ht, lt1, lt2, lt3, lt4]) (by simp [refB, has, sa_, hat, ta_, hst, ts_, q1, p1, q2, p2, q3, p3, q4, p4, ha, la1, la2, la3, la4, q5, p5, q6, p6, q7, p7, q8, p8, hs, ls1, ls2, ls3, ls4, q9, p9, q10, p10, q11, p11, q12, p12, ht, lt1, lt2, lt3, lt4]) (by simp [refB, has, sa_, hat, ta_, hst, ts_, q1, p1, q2, p2, q3, p3, q4, p4, ha, la1, la2, la3, la4, q5, p5, q6, p6, q7, p7, q8, p8, hs, ls1, ls2, ls3, ls4, q9, p9, q10, p10, q11, p11, q12, p12, ht, lt1, lt2, lt3, lt4]) hW, trivial⟩ rfl ?_
    simp [c2, Try.results21]
    exact ⟨[], by simp [refB, refO, refX, has, sa_, hat, ta_, hst, ts_, q1, p1, q2, p2, q3, p3, q4, p4, ha, la1, la2, la3, la4, q5, p5, q6, p6, q7, p7, q8, p8, hs, ls1, ls2, ls3, ls4, q9, p9, q10, p10, q11, p11, q12, p12, ht, lt1, lt2, lt3, lt4]⟩
  obtain ⟨k, hkk⟩ : ∃ k : Nat, K = k := ⟨K.toNat, by omega⟩
  subst hkk
  have hpl := pcsL_len L k
  have htop := pcsL_top hok.top k
  refine gen_of_aw (rs := [_, _]) [] [] [] mixed Try.func21 rfl (by kernel_rfl) (by kernel_rfl) (by simp [Try.ntmps21]) rfl ?_
  have c1' : decide ((k : Int) < 1) = false := by simp; omega
  simp [c1']
  refine bcall_of0 h26 ⟨bor_ref (s := s) (t := t) (by simp [refB, refO, refX, has, sa_, hat, ta_, hst, ts_, q1, p1, q2, p2, q3, p3, q4, p4, ha, la1, la2, la3, la4, q5, p5, q6, p6, q7, p7, q8, p8, hs, ls1, ls2, ls3, ls4, q9, p9, q10, p10, q11, p11, q12, p12, ht, lt1, lt2, lt3, lt4]) (by simp [refB, has, sa_, hat, ta_, hst, ts_, q1, p1, q2, p2, q3, p3, q4, p4, ha, la1, la2, la3, la4, q5, p5, q6, p6, q7, p7, q8, p8, hs, ls1, ls2, ls3, ls4, q9, p9, q10, p10, q11, p11, q12, p12, ht, lt1, lt2, lt3, lt4]) (by simp [refB, has, sa_, hat, ta_, hst, ts_, q1, p1, q2, p2, q3, p3, q4, p4, ha, la1, la2, la3, la4, q5, p5, q6, p6, q7, p7, q8, p8, hs, ls1, ls2, ls3, ls4, q9, p9, q10, p10, q11, p11, q12, p12, ht, lt1, lt2, lt3, lt4]) hW, trivial⟩ rfl ?_
  have c2n : ¬ szL L < k := by omega
  simp [c2n]
  refine gcall_of0 h28 (by simp) (by simp [sub1, refB, refO, refX, has, sa_, hat, ta_, hst, ts_, q1, p1, q2, p2, q3, p3, q4, p4, ha, la1, la2, la3, la4, q5, p5, q6, p6, q7, p7, q8, p8, hs, ls1, ls2, ls3, ls4, q9, p9, q10, p10, q11, p11, q12, p12, ht, lt1, lt2, lt3, lt4]) trivial rfl ?_
  simp [refB, refO, refX, has, sa_, hat, ta_, hst, ts_, q1, p1, q2, p2, q3, p3, q4, p4, ha, la1, la2, la3, la4, q5, p5, q6, p6, q7, p7, q8, p8, hs, ls1, ls2, ls3, ls4, q9, p9, q10, p10, q11, p11, q12, p12, ht, lt1, lt2, lt3, lt4]
  refine aw_loop (fun j : Nat => j ≤ L.length) (fun j => [(0, .obj a 0), (1, .p (.int ((k - szL (L.take j) : Nat) : Int))), (2, .p (.int most)), (8, .view nx 0 L.length 2 none), (9, .own (nx + 1) ((pcsL (L.take j) k).map extP)), (10, .p (.int j))])
    (fun j => ⟨(nx, rowO L) :: refB a s t S W, [(nx + 1, 29, 2)], nx + 1 + 1⟩) (fun j => L.length - j) 0 (by simp) _ (le_own 9 29 2 [] (.inr ⟨rfl, by simp⟩)) (leN_id (by simp [refB, refO, refX, pcsL, szL, has, sa_, hat, ta_, hst, ts_, q1, p1, q2, p2, q3, p3, q4, p4, ha, la1, la2, la3, la4, q5, p5, q6, p6, q7, p7, q8, p8, hs, ls1, ls2, ls3, ls4, q9, p9, q10, p10, q11, p11, q12, p12, ht, lt1, lt2, lt3, lt4])) ?_
  intro j hj
  by_cases c3 : j < L.length
  · have g := cellsL_at c3
    have hlt9 : j * 2 < (cellsL L).length := by simp; omega
    have g1 : (cellsL L)[j * 2] = PC.int L[j].1 := (List.getElem_eq_iff hlt9).2 g.1
    have hlt8 : j * 2 + 1 < (cellsL L).length := by simp; omega
    have g2 : (cellsL L)[j * 2 + 1] = PC.int L[j].2 := (List.getElem_eq_iff hlt8).2 g.2
    have c9 : j * 2 + 1 < L.length * 2 := by omega
    by_cases cz : k - szL (L.take j) = 0
    · have hst9 := pcsL_stop (F := L) (j := j) k (by omega)
      simp [refB, refO, refX, g1, g2, c9, c3, cz, has, sa_, hat, ta_, hst, ts_, q1, p1, q2, p2, q3, p3, q4, p4, ha, la1, la2, la3, la4, q5, p5, q6, p6, q7, p7, q8, p8, hs, ls1, ls2, ls3, ls4, q9, p9, q10, p10, q11, p11, q12, p12, ht, lt1, lt2, lt3, lt4]
      rw [← hst9]
      by_cases c4 : most < ((pcsL L k).length : Int)
      · have hB : piecesB L k most = false := by simp [piecesB]; intro h1 h2; omega
        simp [c4, hB, Try.results21]
        exact ⟨[], by simp [refB, refO, refX, has, sa_, hat, ta_, hst, ts_, q1, p1, q2, p2, q3, p3, q4, p4, ha, la1, la2, la3, la4, q5, p5, q6, p6, q7, p7, q8, p8, hs, ls1, ls2, ls3, ls4, q9, p9, q10, p10, q11, p11, q12, p12, ht, lt1, lt2, lt3, lt4]⟩
      have hB : piecesB L k most = true := by simp [piecesB]; omega
      simp [c4, hB]
      have hF0 : setX S [] = S := rfl
      refine aw_loop (fun i : Nat => i ≤ (pcsL L k).length) (fun i => [(0, .obj a 0), (9, .p (setP (pcsL L k))), (12, .p (.int i))])
        (fun i => ⟨refB a s t (setX S ((pcsL L k).take i)) W, [], nx⟩) (fun i => (pcsL L k).length - i) 0 (by simp) _ (AS.le_refl _ _) (leN_id (by simp [refB, refO, refX, hF0, has, sa_, hat, ta_, hst, ts_, q1, p1, q2, p2, q3, p3, q4, p4, ha, la1, la2, la3, la4, q5, p5, q6, p6, q7, p7, q8, p8, hs, ls1, ls2, ls3, ls4, q9, p9, q10, p10, q11, p11, q12, p12, ht, lt1, lt2, lt3, lt4])) ?_
      intro i hi
      by_cases c5 : i < (pcsL L k).length
      · have hT := set42 a s t nx hh (setX S ((pcsL L k).take i)) W (by simpa using hl) (pcsL L k)[i] (by simpa using htop _ (List.getElem_mem c5)) 2
        rw [← setX_take S (pcsL L k) i c5] at hT
        simp [refB, refO, refX, c5, has, sa_, hat, ta_, hst, ts_, q1, p1, q2, p2, q3, p3, q4, p4, ha, la1, la2, la3, la4, q5, p5, q6, p6, q7, p7, q8, p8, hs, ls1, ls2, ls3, ls4, q9, p9, q10, p10, q11, p11, q12, p12, ht, lt1, lt2, lt3, lt4]
        refine gcall_of0 hT (by simp) (by simp [sub1, refB, refO, refX, has, sa_, hat, ta_, hst, ts_, q1, p1, q2, p2, q3, p3, q4, p4, ha, la1, la2, la3, la4, q5, p5, q6, p6, q7, p7, q8, p8, hs, ls1, ls2, ls3, ls4, q9, p9, q10, p10, q11, p11, q12, p12, ht, lt1, lt2, lt3, lt4]) trivial rfl ?_
        simp [refB, refO, refX, has, sa_, hat, ta_, hst, ts_, q1, p1, q2, p2, q3, p3, q4, p4, ha, la1, la2, la3, la4, q5, p5, q6, p6, q7, p7, q8, p8, hs, ls1, ls2, ls3, ls4, q9, p9, q10, p10, q11, p11, q12, p12, ht, lt1, lt2, lt3, lt4]
        refine ⟨i + 1, by omega, by omega, leN_id ?_⟩
        simp [refB, refO, refX, has, sa_, hat, ta_, hst, ts_, q1, p1, q2, p2, q3, p3, q4, p4, ha, la1, la2, la3, la4, q5, p5, q6, p6, q7, p7, q8, p8, hs, ls1, ls2, ls3, ls4, q9, p9, q10, p10, q11, p11, q12, p12, ht, lt1, lt2, lt3, lt4, wrap64_id (n := (i : Int) + 1) (by omega) (by omega)]
      · have e : i = (pcsL L k).length := by omega
        subst e
        simp [refB, refO, refX, has, sa_, hat, ta_, hst, ts_, q1, p1, q2, p2, q3, p3, q4, p4, ha, la1, la2, la3, la4, q5, p5, q6, p6, q7, p7, q8, p8, hs, ls1, ls2, ls3, ls4, q9, p9, q10, p10, q11, p11, q12, p12, ht, lt1, lt2, lt3, lt4, Try.results21]
        exact ⟨[], by simp [refB, refO, refX, has, sa_, hat, ta_, hst, ts_, q1, p1, q2, p2, q3, p3, q4, p4, ha, la1, la2, la3, la4, q5, p5, q6, p6, q7, p7, q8, p8, hs, ls1, ls2, ls3, ls4, q9, p9, q10, p10, q11, p11, q12, p12, ht, lt1, lt2, lt3, lt4]⟩
    · have hstep := pcsL_step c3 k (by omega)
      have hszt := szL_take c3
      have hl1 := pcsL_len (L.take j) k
      simp at hl1
      have ft := hok.top L[j] (by simp)
      have hkb : k ≤ 1000000000 := by
        have := szL_le (L := L) fun e he => by have := hok.top e he; omega
        have : L.length * 1000000 ≤ 501 * 1000000 := Nat.mul_le_mul_right _ (by omega)
        omega
      have cz' : 0 < k - szL (L.take j) := by omega
      have cz2 : (0 : Int) < ((k - szL (L.take j) : Nat) : Int) := by omega
      obtain ⟨r, hr⟩ : ∃ r, r = k - szL (L.take j) := ⟨_, rfl⟩
      have hr2 : k - szL (L.take (j + 1)) = r - min r L[j].2 := by rw [hszt]; omega
      rw [← hr] at hstep cz' cz2 cz ⊢
      have w2 : IntKind.i64.wrap ((r : Int) - ((min r L[j].2 : Nat) : Int)) = ((r - min r L[j].2 : Nat) : Int) := by
        rw [wrap64_id (by omega) (by omega)]; omega
      have wj : IntKind.i64.wrap ((j : Int) + 1) = ((j + 1 : Nat) : Int) := by rw [wrap64_id (by omega) (by omega)]; simp
      by_cases cm : r < L[j].2
      · have hmin : min r L[j].2 = r := by omega
        rw [hmin] at hstep w2 hr2
        simp [refB, refO, refX, g1, g2, c9, c3, cz, cz', cz2, cm, w2, has, sa_, hat, ta_, hst, ts_, q1, p1, q2, p2, q3, p3, q4, p4, ha, la1, la2, la3, la4, q5, p5, q6, p6, q7, p7, q8, p8, hs, ls1, ls2, ls3, ls4, q9, p9, q10, p10, q11, p11, q12, p12, ht, lt1, lt2, lt3, lt4]
        refine ⟨fun x u v _ hx => by subst hx; rfl, by omega, by omega, j + 1, by omega, by omega, leN_of [(nx + 1, nx + 1 + 1)] ?_⟩
        simp [refB, refO, refX, hstep, hr2, wj, show IntKind.i64.wrap 0 = 0 from rfl, has, sa_, hat, ta_, hst, ts_, q1, p1, q2, p2, q3, p3, q4, p4, ha, la1, la2, la3, la4, q5, p5, q6, p6, q7, p7, q8, p8, hs, ls1, ls2, ls3, ls4, q9, p9, q10, p10, q11, p11, q12, p12, ht, lt1, lt2, lt3, lt4]
      · have hmin : min r L[j].2 = L[j].2 := by omega
        rw [hmin] at hstep w2 hr2
        simp [refB, refO, refX, g1, g2, c9, c3, cz, cz', cz2, cm, w2, has, sa_, hat, ta_, hst, ts_, q1, p1, q2, p2, q3, p3, q4, p4, ha, la1, la2, la3, la4, q5, p5, q6, p6, q7, p7, q8, p8, hs, ls1, ls2, ls3, ls4, q9, p9, q10, p10, q11, p11, q12, p12, ht, lt1, lt2, lt3, lt4]
        refine ⟨fun x u v _ hx => by subst hx; rfl, by omega, by omega, j + 1, by omega, by omega, leN_of [(nx + 1, nx + 1 + 1)] ?_⟩
        simp [refB, refO, refX, hstep, hr2, wj, show IntKind.i64.wrap 0 = 0 from rfl, has, sa_, hat, ta_, hst, ts_, q1, p1, q2, p2, q3, p3, q4, p4, ha, la1, la2, la3, la4, q5, p5, q6, p6, q7, p7, q8, p8, hs, ls1, ls2, ls3, ls4, q9, p9, q10, p10, q11, p11, q12, p12, ht, lt1, lt2, lt3, lt4]
  · have e : j = L.length := by omega
    subst e
    simp [List.take_length]
    by_cases c4 : most < ((pcsL L k).length : Int)
    · have hB : piecesB L k most = false := by simp [piecesB]; intro h1 h2; omega
      simp [c4, hB, Try.results21]
      exact ⟨[], by simp [refB, refO, refX, has, sa_, hat, ta_, hst, ts_, q1, p1, q2, p2, q3, p3, q4, p4, ha, la1, la2, la3, la4, q5, p5, q6, p6, q7, p7, q8, p8, hs, ls1, ls2, ls3, ls4, q9, p9, q10, p10, q11, p11, q12, p12, ht, lt1, lt2, lt3, lt4]⟩
    · have hB : piecesB L k most = true := by simp [piecesB]; omega
      simp [c4, hB]
      have hF0 : setX S [] = S := rfl
      refine aw_loop (fun i : Nat => i ≤ (pcsL L k).length) (fun i => [(0, .obj a 0), (9, .p (setP (pcsL L k))), (12, .p (.int i))])
        (fun i => ⟨refB a s t (setX S ((pcsL L k).take i)) W, [], nx⟩) (fun i => (pcsL L k).length - i) 0 (by simp) _ (AS.le_refl _ _) (leN_id (by simp [refB, refO, refX, hF0, has, sa_, hat, ta_, hst, ts_, q1, p1, q2, p2, q3, p3, q4, p4, ha, la1, la2, la3, la4, q5, p5, q6, p6, q7, p7, q8, p8, hs, ls1, ls2, ls3, ls4, q9, p9, q10, p10, q11, p11, q12, p12, ht, lt1, lt2, lt3, lt4])) ?_
      intro i hi
      by_cases c5 : i < (pcsL L k).length
      · have hT := set42 a s t nx hh (setX S ((pcsL L k).take i)) W (by simpa using hl) (pcsL L k)[i] (by simpa using htop _ (List.getElem_mem c5)) 2
        rw [← setX_take S (pcsL L k) i c5] at hT
        simp [refB, refO, refX, c5, has, sa_, hat, ta_, hst, ts_, q1, p1, q2, p2, q3, p3, q4, p4, ha, la1, la2, la3, la4, q5, p5, q6, p6, q7, p7, q8, p8, hs, ls1, ls2, ls3, ls4, q9, p9, q10, p10, q11, p11, q12, p12, ht, lt1, lt2, lt3, lt4]
        refine gcall_of0 hT (by simp) (by simp [sub1, refB, refO, refX, has, sa_, hat, ta_, hst, ts_, q1, p1, q2, p2, q3, p3, q4, p4, ha, la1, la2, la3, la4, q5, p5, q6, p6, q7, p7, q8, p8, hs, ls1, ls2, ls3, ls4, q9, p9, q10, p10, q11, p11, q12, p12, ht, lt1, lt2, lt3, lt4]) trivial rfl ?_
        simp [refB, refO, refX, has, sa_, hat, ta_, hst, ts_, q1, p1, q2, p2, q3, p3, q4, p4, ha, la1, la2, la3, la4, q5, p5, q6, p6, q7, p7, q8, p8, hs, ls1, ls2, ls3, ls4, q9, p9, q10, p10, q11, p11, q12, p12, ht, lt1, lt2, lt3, lt4]
        refine ⟨i + 1, by omega, by omega, leN_id ?_⟩
        simp [refB, refO, refX, has, sa_, hat, ta_, hst, ts_, q1, p1, q2, p2, q3, p3, q4, p4, ha, la1, la2, la3, la4, q5, p5, q6, p6, q7, p7, q8, p8, hs, ls1, ls2, ls3, ls4, q9, p9, q10, p10, q11, p11, q12, p12, ht, lt1, lt2, lt3, lt4, wrap64_id (n := (i : Int) + 1) (by omega) (by omega)]
      · have e : i = (pcsL L k).length := by omega
        subst e
        simp [refB, refO, refX, has, sa_, hat, ta_, hst, ts_, q1, p1, q2, p2, q3, p3, q4, p4, ha, la1, la2, la3, la4, q5, p5, q6, p6, q7, p7, q8, p8, hs, ls1, ls2, ls3, ls4, q9, p9, q10, p10, q11, p11, q12, p12, ht, lt1, lt2, lt3, lt4, Try.results21]
        exact ⟨[], by simp [refB, refO, refX, has, sa_, hat, ta_, hst, ts_, q1, p1, q2, p2, q3, p3, q4, p4, ha, la1, la2, la3, la4, q5, p5, q6, p6, q7, p7, q8, p8, hs, ls1, ls2, ls3, ls4, q9, p9, q10, p10, q11, p11, q12, p12, ht, lt1, lt2, lt3, lt4]⟩
end Go.Av
