/- What Right and Pack compute, and that unlike right nodes have unlike octets. -/
import Derived.Test.YtlpeicdpndmfoaaNd
set_option linter.all false
/-! part N17z -/
namespace Go.Av
open Go.Proofs

def kyB (s : List UInt8) : Bool := decide (1 ≤ s.length) && decide (s.length ≤ 100)
theorem keyed49 (s : List UInt8) : PureC Try.prog 49 [.str s] (.bool (kyB s)) := by
  refine pure_of_aw (ys := [_]) [] [] [] mixed Try.func49 rfl (by kernel_rfl) (by kernel_rfl) (by simp [Try.ntmps49]) rfl ?_
  cases s with
  | nil => simp [Try.results49, kyB]
  | cons x s =>
    have e : (x :: s != []) = true := rfl
    by_cases h : (s.length : Int) + 1 ≤ 100
    · have h' : s.length + 1 ≤ 100 := by omega
      simp [e, h, h', Try.results49, kyB]
    · have h' : ¬ s.length + 1 ≤ 100 := by omega
      simp [e, h, h', Try.results49, kyB]
theorem right48 (s : List UInt8) : PureC Try.prog 48 [.str s] (.bool (!kyB s)) := by
  refine pure_of_aw (ys := [_]) [] [] [] mixed Try.func48 rfl (by kernel_rfl) (by kernel_rfl) (by simp [Try.ntmps48]) rfl ?_
  simp
  refine pcall_of (keyed49 s) (by simp) ?_
  simp [Try.results48]
theorem right52 (v : Int) : PureC Try.prog 52 [.int v] (.bool (!vB v)) := by
  refine pure_of_aw (ys := [_]) [] [] [] mixed Try.func52 rfl (by kernel_rfl) (by kernel_rfl) (by simp [Try.ntmps52]) rfl ?_
  by_cases h : v < 0
  · have : vB v = false := by simp [vB]; omega
    simp [h, this, Try.results52]
  · by_cases h2 : 1099511627775 < v
    · have : vB v = false := by simp [vB]; omega
      simp [h, h2, this, Try.results52]
    · have : vB v = true := by simp [vB]; omega
      simp [h, h2, this, Try.results52]

def riB (ks : List (List UInt8)) (j : Nat) : Bool := j == 0 || Op.bytesLess (ks.getD (j - 1) []) (ks.getD j [])
theorem rises50 (ks : List (List UInt8)) (hk : ks.length ≤ 9223372036854775807) : PureC Try.prog 50 [.sl (ks.map PC.str)] (.bool ((List.range ks.length).all (riB ks))) := by
  refine pure_of_aw (ys := [_]) [] [] [] mixed Try.func50 rfl (by kernel_rfl) (by kernel_rfl) (by simp [Try.ntmps50]) rfl ?_
  simp
  refine aw_loop0 (fun k : Nat => (k ≤ ks.length ∨ k = 0) ∧ ∀ j, j < k + 1 → j < ks.length → riB ks j = true) (fun k => [(0, .p (.sl (ks.map PC.str))), (3, .p (.int (k + 1)))]) (fun k => ks.length - k) 0 ⟨.inr rfl, ?_⟩ (leN_id (by simp)) ?_
  · intro j hj _; obtain rfl : j = 0 := by omega
    rfl
  rintro k ⟨j1, j2⟩
  by_cases c1 : k + 1 < ks.length
  · have c1' : (k : Int) + 1 < (ks.length : Int) := by omega
    have hm : k < ks.length := by omega
    have w1 : IntKind.i64.wrap (k : Int) = (k : Int) := wrap64_id (by omega) (by omega)
    have p2 : (0 : Int) ≤ (k : Int) + 1 := by omega
    have t1 : ((k : Int) + 1).toNat = k + 1 := by omega
    simp [c1, c1', w1, hm, p2, t1]
    by_cases c2 : Op.bytesLess ks[k] ks[k + 1] = true
    · simp [c2]
      refine ⟨k + 1, ⟨by omega, ?_⟩, by omega, leN_id ?_⟩
      · intro j hj hl
        by_cases hj' : j < k + 1
        · exact j2 j hj' hl
        · obtain rfl : j = k + 1 := by omega
          simp [riB, c1, hm, c2]
      · simp [wrap64_id (n := (k : Int) + 1 + 1) (by omega) (by omega)]
    · have r : (List.range ks.length).all (riB ks) = false := by
        rw [List.all_eq_false]; exact ⟨k + 1, by simpa using c1, by simp [riB, c1, hm, c2]⟩
      simp [c2, r, Try.results50]
  · have c1' : ¬ (k : Int) + 1 < (ks.length : Int) := by omega
    have r : (List.range ks.length).all (riB ks) = true := by
      rw [List.all_eq_true]; intro j hj; simp at hj; exact j2 j (by omega) hj
    simp [c1', r, Try.results50]

/-- where the first is that q takes, or -1 -/
def idxI (q : Int → Bool) (vs : List Int) : Int := if (vs.takeWhile (fun v => !q v)).length < vs.length then ((vs.takeWhile (fun v => !q v)).length : Nat) else -1
theorem idxF_any (q : List UInt8 → Bool) (ks : List (List UInt8)) : decide (0 ≤ idxF q ks) = ks.any q := by
  unfold idxF
  by_cases h : below (fun s => !q s) ks < ks.length
  · have := below_stop _ _ h
    have e : ks.any q = true := by rw [List.any_eq_true]; exact ⟨_, List.getElem_mem h, by simpa using this⟩
    simp [h, e]
  · have hb := below_le (fun s => !q s) ks
    have e : ks.any q = false := by
      rw [List.any_eq_false]; intro x hx
      have := below_take (fun s => !q s) ks x (by rw [List.take_of_length_le (by omega)]; exact hx)
      simpa using this
    simp [h, e]
theorem contains47 {g : FuncId} {caps : List PC} (q : List UInt8 → Bool) (ks : List (List UInt8)) (hk : ks.length ≤ 9223372036854775807) (h : ∀ s ∈ ks, PureC Try.prog g (.str s :: caps) (.bool (q s))) :
    PureC Try.prog 47 [.sl (ks.map PC.str), .fn (.func g) caps] (.bool (ks.any q)) := by
  refine pure_of_aw (ys := [_]) [] [] [] mixed Try.func47 rfl (by kernel_rfl) (by kernel_rfl) (by simp [Try.ntmps47]) rfl ?_
  simp
  refine pcall_of (index55 q ks hk h) (by simp) ?_
  simp [idxF_any, Try.results47]

theorem upto_of {p : Int → Bool} {vs : List Int} {k : Nat} (h : ∀ x ∈ vs.take k, p x = true) (hk : k ≤ vs.length) (he : (hk : k < vs.length) → p vs[k] = false) : (vs.takeWhile p).length = k := by
  induction vs generalizing k with
  | nil => simp at hk; simp [hk]
  | cons a ks ih =>
    cases k with
    | zero => have := he (by simp); simp at this; simp [this]
    | succ k =>
      have ha := h a (by simp)
      have := ih (k := k) (fun x hx => h x (by simp [hx])) (by simpa using hk) (fun hk' => by have := he (by simp; omega); simpa using this)
      simp [ha, this]
theorem index66 {g : FuncId} {caps : List PC} (q : Int → Bool) (vs : List Int) (hk : vs.length ≤ 9223372036854775807) (h : ∀ s ∈ vs, PureC Try.prog g (.int s :: caps) (.bool (q s))) :
    PureC Try.prog 66 [.sl (vs.map PC.int), .fn (.func g) caps] (.int (idxI q vs)) := by
  refine pure_of_aw (ys := [_]) [] [] [] mixed Try.func66 rfl (by kernel_rfl) (by kernel_rfl) (by simp [Try.ntmps66]) rfl ?_
  simp
  refine aw_loop0 (fun k : Nat => k ≤ vs.length ∧ ∀ x ∈ vs.take k, (!q x) = true) (fun k => [(0, .p (.sl (vs.map PC.int))), (1, .p (.fn (.func g) caps)), (7, .p (.int vs.length)), (8, .p (.int k))]) (fun k => vs.length - k) 0 (by simp) (leN_id (by simp)) ?_
  rintro k ⟨h1, h2⟩
  by_cases c1 : k < vs.length
  · simp [c1]
    refine pcall_of (h vs[k] (by simp)) (by simp) ?_
    by_cases c2 : q vs[k] = true
    · have e := upto_of (p := fun v => !q v) h2 h1 (fun _ => by simpa using c2)
      simp [c2, idxI, e, c1, Try.results66]
    · simp [c2]
      refine ⟨k + 1, ⟨by omega, ?_⟩, by omega, leN_id ?_⟩
      · rw [List.take_succ_eq_append_getElem c1]; simp only [List.mem_append, List.mem_singleton]; rintro x (hx | rfl); (have := h2 x hx; simpa using this); simpa using c2
      · simp [wrap64_id (n := (k : Int) + 1) (by omega) (by omega)]
  · have e := upto_of (p := fun v => !q v) h2 h1 (fun h => absurd h c1)
    simp [e, c1, idxI, Try.results66]
theorem idxI_any (q : Int → Bool) (vs : List Int) : decide (0 ≤ idxI q vs) = vs.any q := by
  unfold idxI
  induction vs with
  | nil => rfl
  | cons a l ih =>
    cases h : q a with
    | true => simp [h]
    | false =>
      simp only [List.takeWhile_cons, h, Bool.not_false, if_true, List.length_cons, Nat.add_lt_add_iff_right, List.any_cons, Bool.false_or]
      rw [← ih]
      split <;> simp <;> omega
theorem contains51 {g : FuncId} {caps : List PC} (q : Int → Bool) (vs : List Int) (hk : vs.length ≤ 9223372036854775807) (h : ∀ s ∈ vs, PureC Try.prog g (.int s :: caps) (.bool (q s))) :
    PureC Try.prog 51 [.sl (vs.map PC.int), .fn (.func g) caps] (.bool (vs.any q)) := by
  refine pure_of_aw (ys := [_]) [] [] [] mixed Try.func51 rfl (by kernel_rfl) (by kernel_rfl) (by simp [Try.ntmps51]) rfl ?_
  simp
  refine pcall_of (index66 q vs hk h) (by simp) ?_
  simp [idxI_any, Try.results51]

theorem rightB_eq (l : Bool) (ks : List (List UInt8)) (vs : List Int) : rightB l ks vs = (!(ks.any fun s => !kyB s) && (List.range ks.length).all (riB ks) && !(vs.any fun v => !vB v) && decide (ks.length ≤ 4) && fmd l ks vs && (l || decide (0 < ks.length))) := by
  have e1 : (List.range ks.length).all (kB ks) = (!(ks.any fun s => !kyB s) && (List.range ks.length).all (riB ks)) := by
    rw [Bool.eq_iff_iff]
    simp only [List.all_eq_true, List.mem_range, Bool.and_eq_true, Bool.not_eq_true', List.any_eq_false, Bool.not_eq_true, Bool.not_eq_false']
    constructor
    · intro h
      refine ⟨fun s hs => ?_, fun j hj => ?_⟩
      · obtain ⟨i, hi, rfl⟩ := List.getElem_of_mem hs
        have := h i hi
        simp only [kB, Bool.and_eq_true] at this
        simpa [kyB, hi] using this.1
      · have := h j hj
        simp only [kB, Bool.and_eq_true] at this
        exact this.2
    · rintro ⟨h1, h2⟩ j hj
      have a := h1 ks[j] (by simp)
      have b := h2 j hj
      simp only [kB, Bool.and_eq_true]
      refine ⟨?_, b⟩
      simpa [kyB, hj] using a
  have e2 : vs.all vB = !(vs.any fun v => !vB v) := by
    rw [Bool.eq_iff_iff]; simp
  unfold rightB
  rw [e1, e2]
  cases (ks.any fun s => !kyB s) <;> cases (List.range ks.length).all (riB ks) <;> cases (vs.any fun v => !vB v) <;> cases decide (ks.length ≤ 4) <;> cases fmd l ks vs <;> cases (l || decide (0 < ks.length)) <;> rfl

set_option maxHeartbeats 1000000 in
theorem right29 (l : Bool) (ks : List (List UInt8)) (vs : List Int) (hk : ks.length ≤ 9223372036854775807) (hv : vs.length ≤ 9223372036854775807) : PureC Try.prog 29 [nodeP l ks vs] (.bool (rightB l ks vs)) := by
  rw [rightB_eq]
  have c1 := contains47 (g := 48) (caps := []) (fun s => !kyB s) ks hk fun s _ => right48 s
  have c2 := rises50 ks hk
  have c3 := contains51 (g := 52) (caps := []) (fun v => !vB v) vs hv fun s _ => right52 s
  refine pure_of_aw (ys := [_]) [] [] [] mixed Try.func29 rfl (by kernel_rfl) (by kernel_rfl) (by simp [Try.ntmps29]) rfl ?_
  simp
  refine pcall_of c1 (by simp) ?_
  cases (ks.any fun s => !kyB s)
  · simp
    refine pcall_of c2 (by simp) ?_
    simp
    refine pcall_of c3 (by simp) ?_
    cases (List.range ks.length).all (riB ks) <;> cases (vs.any fun v => !vB v) <;> try (simp [Try.results29]; done)
    by_cases h4 : (ks.length : Int) ≤ 4
    · have h4' : ks.length ≤ 4 := by omega
      simp [h4, h4']
      refine pcall_of (formed37 l ks vs (by omega)) (by simp) ?_
      cases fmd l ks vs
      · simp [Try.results29]
      · cases l
        · by_cases h0 : 0 < ks.length
          · simp [h0, Try.results29]
          · simp [h0, Try.results29]
        · simp [Try.results29]
    · have h4' : ¬ ks.length ≤ 4 := by omega
      simp [h4, h4', Try.results29]
  · simp
    refine pcall_of c3 (by simp) ?_
    cases (vs.any fun v => !vB v)
    · simp [Try.results29]
    · simp [Try.results29]
end Go.Av

/-! part N17za -/
namespace Go.Av
open Go.Proofs

@[simp] theorem pcCells_sc {v : Value} : pcCells (.sc v) = [.p (.sc v)] := (rfl)
/-- a number's five octets -/
def byteAt (v : Int) (i : Nat) : UInt8 := UInt8.ofNat (v.toNat / 2 ^ (8 * i))
def be5 (v : Int) : List UInt8 := [byteAt v 4, byteAt v 3, byteAt v 2, byteAt v 1, byteAt v 0]
def packK (ks : List (List UInt8)) : List UInt8 := ks.flatMap fun s => UInt8.ofNat s.length :: s
def packI (vs : List Int) : List UInt8 := vs.flatMap be5
def packH (l : Bool) (n : Nat) : List UInt8 := [if l then 1 else 2, UInt8.ofNat n]
def packB (l : Bool) (ks : List (List UInt8)) (vs : List Int) : List UInt8 := packH l ks.length ++ packK ks ++ packI vs

theorem wu8 (m : Nat) : IntKind.u8.wrap (m : Int) = ((UInt8.ofNat m).toNat : Int) := by
  simp [IntKind.wrap, IntKind.signed, IntKind.bits]
theorem w_at (m n i : Nat) (hn : n = 8 * i) (hi : i ≤ 4) : IntKind.u8.wrap ((m : Int).fdiv (2 ^ min n IntKind.i64.bits)) = ((byteAt (m : Int) i).toNat : Int) := by
  have h2 : min n IntKind.i64.bits = n := by simp [IntKind.bits]; omega
  rw [h2, Int.fdiv_eq_ediv_of_nonneg _ (by exact Int.le_of_lt (Int.pow_pos (by omega)))]
  have h3 : (m : Int) / 2 ^ n = ((m / 2 ^ n : Nat) : Int) := by simp
  rw [h3, wu8, byteAt, Int.toNat_natCast, hn]
theorem bytesPC_append (a b : List UInt8) : bytesPC (a ++ b) = bytesPC a ++ bytesPC b := by simp [bytesPC]
theorem packK_succ {ks : List (List UInt8)} {k : Nat} (h : k < ks.length) : packK (ks.take (k + 1)) = packK (ks.take k) ++ UInt8.ofNat ks[k].length :: ks[k] := by
  rw [List.take_succ_eq_append_getElem h]; simp only [packK, List.flatMap_append, List.flatMap_cons, List.flatMap_nil, List.append_nil]
theorem packI_succ {vs : List Int} {k : Nat} (h : k < vs.length) : packI (vs.take (k + 1)) = packI (vs.take k) ++ be5 vs[k] := by
  rw [List.take_succ_eq_append_getElem h]; simp only [packI, List.flatMap_append, List.flatMap_cons, List.flatMap_nil, List.append_nil]
theorem packI_len {vs : List Int} {n : Nat} (hn : vs.length ≤ n) : (packI vs).length ≤ 5 * n := by
  induction vs generalizing n with
  | nil => simp [packI]
  | cons a ks ih =>
    have := ih (n := n - 1) (by simp at hn; omega)
    simp [packI, be5] at this hn ⊢
    omega
theorem packK_len {ks : List (List UInt8)} {n : Nat} (h : ∀ s ∈ ks, s.length ≤ 100) (hn : ks.length ≤ n) : (packK ks).length ≤ 101 * n := by
  induction ks generalizing n with
  | nil => simp [packK]
  | cons a ks ih =>
    have := ih (n := n - 1) (fun s hs => h s (by simp [hs])) (by simp at hn; omega)
    have ha := h a (by simp)
    simp [packK] at this hn ⊢
    omega

theorem bytesPC_len (b : List UInt8) : (bytesPC b).length = b.length := by simp [bytesPC]
/-- what two appends leave -/
theorem row_key {B S : List UInt8} {N : Nat} {c : UInt8} (hN : N = B.length) :
    List.take (N + 1) (List.take N ((bytesPC B).map AV.p) ++ [AV.p (.sc (.int .u8 (c.toNat : Int)))]) ++ (bytesPC S).map AV.p = (bytesPC (B ++ c :: S)).map AV.p := by
  have h1 : List.take N ((bytesPC B).map AV.p) = (bytesPC B).map AV.p := List.take_of_length_le (by simp [bytesPC_len]; omega)
  rw [h1, List.take_of_length_le (by simp [bytesPC_len]; omega)]
  simp [bytesPC]
theorem row_one {B : List UInt8} {N : Nat} {c : UInt8} (hN : N = B.length) :
    List.take N ((bytesPC B).map AV.p) ++ [AV.p (.sc (.int .u8 (c.toNat : Int)))] = (bytesPC (B ++ [c])).map AV.p := by
  have h1 : List.take N ((bytesPC B).map AV.p) = (bytesPC B).map AV.p := List.take_of_length_le (by simp [bytesPC_len]; omega)
  rw [h1]; simp [bytesPC]
@[simp] theorem packH_len {l : Bool} {n : Nat} : (packH l n).length = 2 := rfl

theorem bytes_bor (b : List UInt8) : List.take b.length (List.map AV.p (bytesPC b)) = List.map AV.p (List.flatMap pcs (bytesPC b)) ∧ (∀ (y : PC), y ∈ bytesPC b → y.width = 1) ∧ ∀ (y : PC), y ∈ bytesPC b → noTup y = true := by
  refine ⟨?_, fun y h => ?_, fun y h => ?_⟩
  · rw [List.take_of_length_le (by simp [bytesPC_len])]
    congr 1
    induction b with
    | nil => rfl
    | cons a b ih => simp only [bytesPC, List.map_cons, List.flatMap_cons, pcsl_sc] at ih ⊢; rw [← ih]; rfl
  · simp only [bytesPC, List.mem_map] at h; obtain ⟨z, _, rfl⟩ := h; rfl
  · simp only [bytesPC, List.mem_map] at h; obtain ⟨z, _, rfl⟩ := h; rfl

set_option maxHeartbeats 1000000 in
theorem pack28 (l : Bool) (ks : List (List UInt8)) (vs : List Int) (hr : rightB l ks vs = true) (hk : ks.length ≤ 9223372036854775807) (hv : vs.length ≤ 9223372036854775807) : 
    PureC Try.prog 28 [nodeP l ks vs] (.tp [.sl (bytesPC (packB l ks vs)), .int 0]) := by
  obtain ⟨hc, k4, hf, k100⟩ := right_chn hr
  refine pure_of_gen (xs := [_]) (r := .agg true [.view 0 0 (packB l ks vs).length 1 none, .p (.int 0)]) (tb' := ⟨[(0, ⟨5, 1, (bytesPC (packB l ks vs)).map .p⟩)], [], 1⟩) ?_ ?_
  · refine gen_of_aw (rs := [_, _]) [17] [] [] mixed Try.func28 rfl (by kernel_rfl) (by kernel_rfl) (by simp [Try.ntmps28]) rfl ?_
    simp
    refine pcall_of (right29 l ks vs hk hv) (by simp) ?_
    simp [hr]
    cases l
    · simp
      refine aw_loop (fun k : Nat => k ≤ ks.length) (fun k => [(1, .p (.ref (nodeP false ks vs))), (4, .view 0 0 (packH false ks.length ++ packK (ks.take k)).length 1 none), (24, .p (.sl (ks.map PC.str))), (25, .p (.int ks.length)), (26, .p (.int k))])
        (fun k => ⟨[(0, ⟨5, 1, (bytesPC (packH false ks.length ++ packK (ks.take k))).map .p⟩)], [], 1⟩) (fun k => ks.length - k) 0 (by simp) _ (AS.le_refl _ _) (leN_id (by simp [packH, packK, bytesPC, wu8])) ?_
      intro k hk
      have hP := packK_len (n := ks.length) (fun s hs => k100 s (List.mem_of_mem_take hs)) (by simp; omega : (ks.take k).length ≤ ks.length)
      by_cases c1 : k < ks.length
      · have hl := k100 ks[k] (by simp)
        have key := row_key (B := packH false ks.length ++ packK (ks.take k)) (S := ks[k]) (N := (packH false ks.length).length + (packK (ks.take k)).length) (c := UInt8.ofNat ks[k].length) (by simp)
        rw [List.append_assoc, ← packK_succ c1, ← wu8] at key
        simp [c1] at key ⊢
        repeat' refine And.intro ?_ ?_
        all_goals first | omega | skip
        refine ⟨k + 1, by omega, by omega, leN_of [(0, 2)] ?_⟩
        have hlen : (packK (ks.take (k + 1))).length = (packK (ks.take k)).length + 1 + ks[k].length := by rw [packK_succ c1]; simp; omega
        simp [key, hlen, wrap64_id (n := (k : Int) + 1) (by omega) (by omega)]
        omega
      · have e : k = ks.length := by omega
        subst e
        have hP : (packK ks).length ≤ 404 := by simp only [List.take_length] at hP; omega
        simp
        have hf' : vs.length ≤ 5 := by have : vs.length = ks.length + 1 := by simpa [fmd] using hf
                                       omega
        obtain ⟨B0, hB0⟩ : ∃ B0, B0 = packH false ks.length ++ packK ks := ⟨_, rfl⟩
        have lB0 : B0.length = 2 + (packK ks).length := by rw [hB0]; simp
        rw [← hB0, ← lB0]
        refine aw_loop (fun k : Nat => k ≤ vs.length) (fun k => [(4, .view 0 0 (B0 ++ packI (vs.take k)).length 1 none), (40, .p (.sl (vs.map PC.int))), (41, .p (.int vs.length)), (42, .p (.int k))])
          (fun k => ⟨[(0, ⟨5, 1, (bytesPC (B0 ++ packI (vs.take k))).map .p⟩)], [], 1⟩) (fun k => vs.length - k) 0 (by simp) _ (AS.le_refl _ _) (leN_id (by simp [packI])) ?_
        intro k hk
        by_cases c1 : k < vs.length
        · simp [c1]
          obtain ⟨B1, hB1⟩ : ∃ B1, B1 = B0 ++ packI (vs.take k) := ⟨_, rfl⟩
          have lB1 : B1.length = B0.length + (packI (vs.take k)).length := by rw [hB1]; simp
          have lP := packI_len (n := 5) (vs := vs.take k) (by simp; omega)
          rw [← hB1, ← lB1]
          obtain ⟨v, hv1⟩ : ∃ v, v = vs[k] := ⟨_, rfl⟩
          rw [← hv1]
          have hv0 : 0 ≤ v := by
            have := right_v (l := false) (ks := ks) (vs := vs) c1
            rw [hr] at this
            have h2 : vB vs[k] = true := by cases h : vB vs[k] with
              | true => rfl
              | false => exact absurd (this h) (by simp)
            simp [vB] at h2; omega
          refine aw_loop (fun j : Nat => j ≤ 5) (fun j => [(4, .view 0 0 (B1 ++ (be5 v).take j).length 1 none), (8, .p (.int v)), (9, .p (.int (4 - j))), (40, .p (.sl (vs.map PC.int))), (41, .p (.int vs.length)), (42, .p (.int k))])
            (fun j => ⟨[(0, ⟨5, 1, (bytesPC (B1 ++ (be5 v).take j)).map .p⟩)], [], 1⟩) (fun j => 5 - j) 0 (by simp) _ (AS.le_refl _ _) (leN_id (by simp)) ?_
          intro j hj
          have hcase : j = 0 ∨ j = 1 ∨ j = 2 ∨ j = 3 ∨ j = 4 ∨ j = 5 := by omega
          obtain ⟨m, hm⟩ : ∃ m : Nat, v = m := ⟨v.toNat, by omega⟩
          rcases hcase with rfl | rfl | rfl | rfl | rfl | rfl
          · have w := w_at m 32 4 rfl (by omega)
            have key := row_one (B := B1) (N := B1.length) (c := byteAt v 4) (by simp)
            rw [← hm] at w
            try simp at key
            simp [be5, wrap64_id]
            refine ⟨by omega, by omega, 1, by omega, by omega, leN_of [(0, 1)] ?_⟩
            simp [be5, key, w, wrap64_id]
          · have w := w_at m 24 3 rfl (by omega)
            have key := row_one (B := (B1 ++ [byteAt v 4])) (N := B1.length + 1) (c := byteAt v 3) (by simp)
            rw [← hm] at w
            try simp at key
            simp [be5, wrap64_id]
            refine ⟨by omega, by omega, 2, by omega, by omega, leN_of [(0, 1)] ?_⟩
            simp [be5, key, w, wrap64_id]
          · have w := w_at m 16 2 rfl (by omega)
            have key := row_one (B := (B1 ++ [byteAt v 4, byteAt v 3])) (N := B1.length + 2) (c := byteAt v 2) (by simp)
            rw [← hm] at w
            try simp at key
            simp [be5, wrap64_id]
            refine ⟨by omega, by omega, 3, by omega, by omega, leN_of [(0, 1)] ?_⟩
            simp [be5, key, w, wrap64_id]
          · have w := w_at m 8 1 rfl (by omega)
            have key := row_one (B := (B1 ++ [byteAt v 4, byteAt v 3, byteAt v 2])) (N := B1.length + 3) (c := byteAt v 1) (by simp)
            rw [← hm] at w
            try simp at key
            simp [be5, wrap64_id]
            refine ⟨by omega, by omega, 4, by omega, by omega, leN_of [(0, 1)] ?_⟩
            simp [be5, key, w, wrap64_id]
          · have w := w_at m 0 0 rfl (by omega)
            have key := row_one (B := (B1 ++ [byteAt v 4, byteAt v 3, byteAt v 2, byteAt v 1])) (N := B1.length + 4) (c := byteAt v 0) (by simp)
            rw [← hm] at w
            try simp at key
            simp [be5, wrap64_id]
            refine ⟨by omega, by omega, 5, by omega, by omega, leN_of [(0, 1)] ?_⟩
            have w' : IntKind.u8.wrap v = ((byteAt v 0).toNat : Int) := by simpa using w
            simp [be5, key, w', wrap64_id]
          · have E : B0 ++ packI (vs.take (k + 1)) = B1 ++ be5 v := by rw [packI_succ c1, hB1, hv1, List.append_assoc]
            have l5 : (be5 v).length = 5 := rfl
            have lE : B0.length + (packI (vs.take (k + 1))).length = B1.length + 5 := by rw [← List.length_append, E]; simp [l5]
            have t5 : List.take 5 (be5 v) = be5 v := rfl
            simp
            refine ⟨k + 1, by omega, by omega, leN_id ?_⟩
            simp [E, l5, lE, t5, wrap64_id (n := (k : Int) + 1) (by omega) (by omega)]
        · have e : k = vs.length := by omega
          subst e
          simp [Try.results28]
          have E : packB false ks vs = B0 ++ packI vs := by rw [hB0]; rfl
          exact ⟨[], by simp [E]⟩
    · simp
      refine aw_loop (fun k : Nat => k ≤ ks.length) (fun k => [(1, .p (.ref (nodeP true ks vs))), (4, .view 0 0 (packH true ks.length ++ packK (ks.take k)).length 1 none), (24, .p (.sl (ks.map PC.str))), (25, .p (.int ks.length)), (26, .p (.int k))])
        (fun k => ⟨[(0, ⟨5, 1, (bytesPC (packH true ks.length ++ packK (ks.take k))).map .p⟩)], [], 1⟩) (fun k => ks.length - k) 0 (by simp) _ (AS.le_refl _ _) (leN_id (by simp [packH, packK, bytesPC, wu8])) ?_
      intro k hk
      have hP := packK_len (n := ks.length) (fun s hs => k100 s (List.mem_of_mem_take hs)) (by simp; omega : (ks.take k).length ≤ ks.length)
      by_cases c1 : k < ks.length
      · have hl := k100 ks[k] (by simp)
        have key := row_key (B := packH true ks.length ++ packK (ks.take k)) (S := ks[k]) (N := (packH true ks.length).length + (packK (ks.take k)).length) (c := UInt8.ofNat ks[k].length) (by simp)
        rw [List.append_assoc, ← packK_succ c1, ← wu8] at key
        simp [c1] at key ⊢
        repeat' refine And.intro ?_ ?_
        all_goals first | omega | skip
        refine ⟨k + 1, by omega, by omega, leN_of [(0, 2)] ?_⟩
        have hlen : (packK (ks.take (k + 1))).length = (packK (ks.take k)).length + 1 + ks[k].length := by rw [packK_succ c1]; simp; omega
        simp [key, hlen, wrap64_id (n := (k : Int) + 1) (by omega) (by omega)]
        omega
      · have e : k = ks.length := by omega
        subst e
        have hP : (packK ks).length ≤ 404 := by simp only [List.take_length] at hP; omega
        simp
        have hf' : vs.length ≤ 5 := by have : vs.length = ks.length := by simpa [fmd] using hf
                                       omega
        obtain ⟨B0, hB0⟩ : ∃ B0, B0 = packH true ks.length ++ packK ks := ⟨_, rfl⟩
        have lB0 : B0.length = 2 + (packK ks).length := by rw [hB0]; simp
        rw [← hB0, ← lB0]
        refine aw_loop (fun k : Nat => k ≤ vs.length) (fun k => [(4, .view 0 0 (B0 ++ packI (vs.take k)).length 1 none), (40, .p (.sl (vs.map PC.int))), (41, .p (.int vs.length)), (42, .p (.int k))])
          (fun k => ⟨[(0, ⟨5, 1, (bytesPC (B0 ++ packI (vs.take k))).map .p⟩)], [], 1⟩) (fun k => vs.length - k) 0 (by simp) _ (AS.le_refl _ _) (leN_id (by simp [packI])) ?_
        intro k hk
        by_cases c1 : k < vs.length
        · simp [c1]
          obtain ⟨B1, hB1⟩ : ∃ B1, B1 = B0 ++ packI (vs.take k) := ⟨_, rfl⟩
          have lB1 : B1.length = B0.length + (packI (vs.take k)).length := by rw [hB1]; simp
          have lP := packI_len (n := 5) (vs := vs.take k) (by simp; omega)
          rw [← hB1, ← lB1]
          obtain ⟨v, hv1⟩ : ∃ v, v = vs[k] := ⟨_, rfl⟩
          rw [← hv1]
          have hv0 : 0 ≤ v := by
            have := right_v (l := true) (ks := ks) (vs := vs) c1
            rw [hr] at this
            have h2 : vB vs[k] = true := by cases h : vB vs[k] with
              | true => rfl
              | false => exact absurd (this h) (by simp)
            simp [vB] at h2; omega
          refine aw_loop (fun j : Nat => j ≤ 5) (fun j => [(4, .view 0 0 (B1 ++ (be5 v).take j).length 1 none), (8, .p (.int v)), (9, .p (.int (4 - j))), (40, .p (.sl (vs.map PC.int))), (41, .p (.int vs.length)), (42, .p (.int k))])
            (fun j => ⟨[(0, ⟨5, 1, (bytesPC (B1 ++ (be5 v).take j)).map .p⟩)], [], 1⟩) (fun j => 5 - j) 0 (by simp) _ (AS.le_refl _ _) (leN_id (by simp)) ?_
          intro j hj
          have hcase : j = 0 ∨ j = 1 ∨ j = 2 ∨ j = 3 ∨ j = 4 ∨ j = 5 := by omega
          obtain ⟨m, hm⟩ : ∃ m : Nat, v = m := ⟨v.toNat, by omega⟩
          rcases hcase with rfl | rfl | rfl | rfl | rfl | rfl
          · have w := w_at m 32 4 rfl (by omega)
            have key := row_one (B := B1) (N := B1.length) (c := byteAt v 4) (by simp)
            rw [← hm] at w
            try simp at key
            simp [be5, wrap64_id]
            refine ⟨by omega, by omega, 1, by omega, by omega, leN_of [(0, 1)] ?_⟩
            simp [be5, key, w, wrap64_id]
          · have w := w_at m 24 3 rfl (by omega)
            have key := row_one (B := (B1 ++ [byteAt v 4])) (N := B1.length + 1) (c := byteAt v 3) (by simp)
            rw [← hm] at w
            try simp at key
            simp [be5, wrap64_id]
            refine ⟨by omega, by omega, 2, by omega, by omega, leN_of [(0, 1)] ?_⟩
            simp [be5, key, w, wrap64_id]
          · have w := w_at m 16 2 rfl (by omega)
            have key := row_one (B := (B1 ++ [byteAt v 4, byteAt v 3])) (N := B1.length + 2) (c := byteAt v 2) (by simp)
            rw [← hm] at w
            try simp at key
            simp [be5, wrap64_id]
            refine ⟨by omega, by omega, 3, by omega, by omega, leN_of [(0, 1)] ?_⟩
            simp [be5, key, w, wrap64_id]
          · have w := w_at m 8 1 rfl (by omega)
            have key := row_one (B := (B1 ++ [byteAt v 4, byteAt v 3, byteAt v 2])) (N := B1.length + 3) (c := byteAt v 1) (by simp)
            rw [← hm] at w
            try simp at key
            simp [be5, wrap64_id]
            refine ⟨by omega, by omega, 4, by omega, by omega, leN_of [(0, 1)] ?_⟩
            simp [be5, key, w, wrap64_id]
          · have w := w_at m 0 0 rfl (by omega)
            have key := row_one (B := (B1 ++ [byteAt v 4, byteAt v 3, byteAt v 2, byteAt v 1])) (N := B1.length + 4) (c := byteAt v 0) (by simp)
            rw [← hm] at w
            try simp at key
            simp [be5, wrap64_id]
            refine ⟨by omega, by omega, 5, by omega, by omega, leN_of [(0, 1)] ?_⟩
            have w' : IntKind.u8.wrap v = ((byteAt v 0).toNat : Int) := by simpa using w
            simp [be5, key, w', wrap64_id]
          · have E : B0 ++ packI (vs.take (k + 1)) = B1 ++ be5 v := by rw [packI_succ c1, hB1, hv1, List.append_assoc]
            have l5 : (be5 v).length = 5 := rfl
            have lE : B0.length + (packI (vs.take (k + 1))).length = B1.length + 5 := by rw [← List.length_append, E]; simp [l5]
            have t5 : List.take 5 (be5 v) = be5 v := rfl
            simp
            refine ⟨k + 1, by omega, by omega, leN_id ?_⟩
            simp [E, l5, lE, t5, wrap64_id (n := (k : Int) + 1) (by omega) (by omega)]
        · have e : k = vs.length := by omega
          subst e
          simp [Try.results28]
          have E : packB true ks vs = B0 ++ packI vs := by rw [hB0]; rfl
          exact ⟨[], by simp [E]⟩
  · simp [borF, all2]
    exact bytes_bor _
end Go.Av

/-! part N17zb -/
namespace Go.Av
open Go.Proofs

theorem u8_inj {a b : Nat} (h : UInt8.ofNat a = UInt8.ofNat b) : a % 256 = b % 256 := by
  have := congrArg UInt8.toNat h
  simpa using this
theorem be5_inj {v w : Int} (hv : vB v = true) (hw : vB w = true) (h : be5 v = be5 w) : v = w := by
  simp only [vB, Bool.and_eq_true, decide_eq_true_eq] at hv hw
  simp only [be5, byteAt, List.cons.injEq, and_true] at h
  obtain ⟨h4, h3, h2, h1, h0⟩ := h
  have h4 := u8_inj h4
  have h3 := u8_inj h3
  have h2 := u8_inj h2
  have h1 := u8_inj h1
  have h0 := u8_inj h0
  have e4 : (2 : Nat) ^ (8 * 4) = 4294967296 := rfl
  have e3 : (2 : Nat) ^ (8 * 3) = 16777216 := rfl
  have e2 : (2 : Nat) ^ (8 * 2) = 65536 := rfl
  have e1 : (2 : Nat) ^ (8 * 1) = 256 := rfl
  have e0 : (2 : Nat) ^ (8 * 0) = 1 := rfl
  rw [e4] at h4; rw [e3] at h3; rw [e2] at h2; rw [e1] at h1; rw [e0] at h0
  omega
theorem packI_inj : ∀ {vs ws : List Int}, vs.length = ws.length → (∀ v ∈ vs, vB v = true) → (∀ v ∈ ws, vB v = true) → packI vs = packI ws → vs = ws
  | [], [], _, _, _, _ => rfl
  | [], _ :: _, h, _, _, _ => by simp at h
  | _ :: _, [], h, _, _, _ => by simp at h
  | v :: vs, w :: ws, hl, hv, hw, h => by
    simp only [packI, List.flatMap_cons] at h
    obtain ⟨h1, h2⟩ := List.append_inj h rfl
    rw [be5_inj (hv v (by simp)) (hw w (by simp)) h1, packI_inj (by simpa using hl) (fun x hx => hv x (by simp [hx])) (fun x hx => hw x (by simp [hx])) h2]
theorem packK_inj {R R' : List UInt8} : ∀ {ks ls : List (List UInt8)}, ks.length = ls.length → (∀ s ∈ ks, s.length ≤ 100) → (∀ s ∈ ls, s.length ≤ 100) → packK ks ++ R = packK ls ++ R' → ks = ls ∧ R = R'
  | [], [], _, _, _, h => ⟨rfl, h⟩
  | [], _ :: _, h, _, _, _ => by simp at h
  | _ :: _, [], h, _, _, _ => by simp at h
  | s :: ks, t :: ls, hl, hv, hw, h => by
    simp only [packK, List.flatMap_cons, List.cons_append, List.cons.injEq, List.append_assoc] at h
    have hs := hv s (by simp)
    have ht := hw t (by simp)
    have e := u8_inj h.1
    obtain ⟨h1, h2⟩ := List.append_inj h.2 (by omega)
    obtain ⟨h3, h4⟩ := packK_inj (ks := ks) (ls := ls) (by simpa using hl) (fun x hx => hv x (by simp [hx])) (fun x hx => hw x (by simp [hx])) h2
    exact ⟨by rw [h1, h3], h4⟩
theorem right_vals {l : Bool} {ks : List (List UInt8)} {vs : List Int} (h : rightB l ks vs = true) : ∀ v ∈ vs, vB v = true := by
  simp only [rightB, Bool.and_eq_true, List.all_eq_true] at h
  exact h.2
theorem packB_inj {l l' : Bool} {ks ks' : List (List UInt8)} {vs vs' : List Int} (h1 : rightB l ks vs = true) (h2 : rightB l' ks' vs' = true) : (packB l ks vs == packB l' ks' vs') = sameB l ks vs l' ks' vs' := by
  rw [Bool.eq_iff_iff, beq_iff_eq, sameB_eq]
  constructor
  · intro h
    obtain ⟨_, k4, hf, k100⟩ := right_chn h1
    obtain ⟨_, k4', hf', k100'⟩ := right_chn h2
    simp only [packB, packH, List.cons_append, List.nil_append, List.cons.injEq] at h
    obtain ⟨e1, e2, e3⟩ := h
    have el : l = l' := by cases l <;> cases l' <;> simp at e1 <;> rfl
    subst el
    have e2 := u8_inj e2
    have en : ks.length = ks'.length := by omega
    obtain ⟨e4, e5⟩ := packK_inj en k100 k100' e3
    subst e4
    have ev : vs.length = vs'.length := by
      have a : vs.length = ks.length + (if l then 0 else 1) := by simpa [fmd] using hf
      have b : vs'.length = ks.length + (if l then 0 else 1) := by simpa [fmd] using hf'
      rw [a, b]
    exact ⟨rfl, rfl, packI_inj ev (right_vals h1) (right_vals h2) e5⟩
  · rintro ⟨rfl, rfl, rfl⟩; rfl

set_option maxHeartbeats 1000000 in
theorem law7 (l : Bool) (ks : List (List UInt8)) (vs : List Int) (l' : Bool) (ks' : List (List UInt8)) (vs' : List Int) : PureC Try.prog 7 [nodeP l ks vs, nodeP l' ks' vs'] (.bool true) := by
  refine pure_of_aw (ys := [_]) [] [] [] mixed Try.func7 rfl (by kernel_rfl) (by kernel_rfl) (by simp [Try.ntmps7]) rfl ?_
  simp
  refine pcall_of awake9 (by simp) ?_
  simp
  refine pcall_of (few10 l ks vs) (by simp) ?_
  by_cases h1 : fewB ks vs = true
  · simp [h1]
    refine pcall_of (few10 l' ks' vs') (by simp) ?_
    by_cases h2 : fewB ks' vs' = true
    · simp [h2]
      simp [fewB] at h1 h2
      refine pcall_of (right21 l ks vs (by omega) (fun s hs => by have := h1.2 s hs; omega)) (by simp) ?_
      cases h3 : rightB l ks vs with
      | false =>
        simp
        refine pcall_of awake9 (by simp) ?_
        simp [Try.results7]
      | true =>
        simp
        refine pcall_of (right21 l' ks' vs' (by omega) (fun s hs => by have := h2.2 s hs; omega)) (by simp) ?_
        cases h4 : rightB l' ks' vs' with
        | false =>
          simp
          refine pcall_of awake9 (by simp) ?_
          simp [Try.results7]
        | true =>
          simp
          refine pcall_of (pack28 l ks vs h3 (by omega) (by omega)) (by simp) ?_
          simp
          refine pcall_of (pack28 l' ks' vs' h4 (by omega) (by omega)) (by simp) ?_
          simp
          refine call_of (same18 l ks vs l' ks' vs' (by omega) (by omega)) ?_
          simp [packB_inj h3 h4, Try.results7]
    · simp [h2]
      refine pcall_of awake9 (by simp) ?_
      simp [Try.results7]
  · simp [h1]
    refine pcall_of awake9 (by simp) ?_
    simp [Try.results7]
end Go.Av

/-! part N17zc -/
namespace Go.Av
open Go.Proofs
theorem law7n {x y : PC} (hx : nodeS x) (hy : nodeS y) : PureC Try.prog 7 [x, y] (.bool true) := by
  obtain ⟨l, ks, vs, rfl⟩ := hx
  obtain ⟨l', ks', vs', rfl⟩ := hy
  exact law7 l ks vs l' ks' vs'
end Go.Av
