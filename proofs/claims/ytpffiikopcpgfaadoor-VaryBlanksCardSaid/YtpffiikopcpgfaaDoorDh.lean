/- How numbers and lines are printed, strings.Join, that what is printed is read again; StartApart and StartPrints compute true. -/
import Derived.Test.YtpffiikopcpgfaaDoorDg
import Derived.Test.YtpffiikopcpgfaaDoorProg
import Derived.Shelf.Lays
import Derived.Shelf.Strings.OnBuilder
set_option linter.all false
/-! part Q38 -/
namespace Go.Av
open Go.Proofs

def digs : List UInt8 := [48, 49, 50, 51, 52, 53, 54, 55, 56, 57, 97, 98, 99, 100, 101, 102]
theorem digs_at (d : Nat) (h : d < 10) : (digs.take (d + 1)).drop d = [dgc d] := by
  have : d = 0 ∨ d = 1 ∨ d = 2 ∨ d = 3 ∨ d = 4 ∨ d = 5 ∨ d = 6 ∨ d = 7 ∨ d = 8 ∨ d = 9 := by omega
  rcases this with rfl | rfl | rfl | rfl | rfl | rfl | rfl | rfl | rfl | rfl <;> rfl
set_option maxHeartbeats 1000000 in
theorem print71 (n : Int) (h1 : -9223372036854775808 ≤ n) (h2 : n ≤ 9223372036854775807) : PureC Tryd.prog 71 [.int n, .int 10] (.str (dec n.toNat)) := by
  refine pure_of_aw (ys := [_]) [] [] [] mixed Tryd.func71 rfl (by kernel_rfl) (by kernel_rfl) (by simp [Tryd.ntmps71]) rfl ?_
  obtain ⟨N, hN⟩ : ∃ N : Nat, (if (0 : Int) > n then 0 else n) = (N : Int) ∧ N = n.toNat := ⟨n.toNat, by split <;> omega, rfl⟩
  obtain ⟨hN, hN2⟩ := hN
  obtain ⟨R, hR⟩ : ∃ R, R = dec n.toNat := ⟨_, rfl⟩
  rw [← hR]
  rw [← hN2] at hR
  have hNb : N ≤ 9223372036854775807 := by omega
  have hN' : (if n < 0 then 0 else n) = (N : Int) := hN
  have m1 : (N : Int).tmod 10 = ((N % 10 : Nat) : Int) := Int.ofNat_tmod N 10
  have w1 : IntKind.i64.wrap ((N : Int) % 10 + 1) = ((N % 10 + 1 : Nat) : Int) := by rw [wrap64_id (by omega) (by omega)]; omega
  have T1 : ((N : Int) % 10).toNat = N % 10 := by omega
  have T2 : ((N : Int) % 10 + 1).toNat = N % 10 + 1 := by omega
  have dg : List.drop (N % 10) (48 :: List.take (N % 10) [49, 50, 51, 52, 53, 54, 55, 56, 57, 97, 98, 99, 100, 101, 102]) = [dgc (N % 10)] := digs_at (N % 10) (by omega)
  have w2 : IntKind.i64.wrap ((N : Int) / 10) = (N : Int) / 10 := wrap64_id (by omega) (by omega)
  simp [hN, hN', m1, w1, T1, T2, dg, w2]
  refine ⟨by omega, by omega, by omega, ?_⟩
  refine aw_loop0 (fun y : Nat × List UInt8 => y.2.length + y.1 ≤ N / 10 + 1 ∧ R = (if y.1 = 0 then y.2 else dec y.1 ++ y.2)) (fun y => [(0, .p (.int y.1)), (1, .p (.int 10)), (5, .p (.str y.2))]) (fun y => y.1) (N / 10, [dgc (N % 10)]) ⟨by simp; omega, ?_⟩ (leN_id (by simp)) ?_
  · simp only
    rw [hR]
    by_cases c : N < 10
    · rw [if_pos (by omega), dec_lt c, Nat.mod_eq_of_lt c]
    · rw [if_neg (by omega), dec_ge c]
  rintro ⟨m, s⟩ ⟨g1, g2⟩
  simp only at g1 g2
  by_cases c : m = 0
  · subst c
    rw [if_pos rfl] at g2
    simp [g2, Tryd.results71]
  · rw [if_neg c] at g2
    have c2 : (0 : Int) < (m : Int) := by omega
    have c3 : 0 < m := by omega
    have q1 : (m : Int).tmod 10 = ((m % 10 : Nat) : Int) := Int.ofNat_tmod m 10
    have q2 : IntKind.i64.wrap ((m : Int) % 10 + 1) = ((m % 10 + 1 : Nat) : Int) := by rw [wrap64_id (by omega) (by omega)]; omega
    have q3 : ((m : Int) % 10).toNat = m % 10 := by omega
    have q4 : ((m : Int) % 10 + 1).toNat = m % 10 + 1 := by omega
    have q5 : List.drop (m % 10) (48 :: List.take (m % 10) [49, 50, 51, 52, 53, 54, 55, 56, 57, 97, 98, 99, 100, 101, 102]) = [dgc (m % 10)] := digs_at (m % 10) (by omega)
    have hd1 : min (m % 10) 15 + 1 - m % 10 = 1 := by omega
    have q6 : IntKind.i64.wrap ((m : Int) / 10) = (m : Int) / 10 := wrap64_id (by omega) (by omega)
    simp [c2, c3, q1, q2, q3, q4, q5, q6, hd1]
    refine ⟨by omega, by omega, by omega, by omega, m / 10, dgc (m % 10) :: s, ⟨by simp; omega, ?_⟩, by omega, leN_id (by simp)⟩
    by_cases c1 : m < 10
    · rw [if_pos (by omega), g2, dec_lt c1, Nat.mod_eq_of_lt c1]; rfl
    · rw [if_neg (by omega), g2, dec_ge c1]; simp
end Go.Av

/-! part Q39 -/
namespace Go.Av
open Go.Proofs

def asksB (s : StV) : Bool := tkB s.m && (decide (s.m.length ≤ 32) && (visB s.t && (decide (s.t.length ≤ 8000) && (decide (s.st = 0) && (s.r == [])))))
def answB (s : StV) : Bool := (s.m == []) && ((s.t == []) && (decide (100 ≤ s.st) && (decide (s.st ≤ 999) && (valB s.r && decide (s.r.length ≤ 200)))))
set_option maxHeartbeats 2000000 in
set_option maxRecDepth 100000 in
theorem asks74 (s : StV) (hm : s.m.length ≤ 1000000000) (ht : s.t.length ≤ 1000000000) : PureC Tryd.prog 74 [stP s] (.bool (asksB s)) := by
  refine pure_of_aw (ys := [_]) [] [] [] mixed Tryd.func74 rfl (by kernel_rfl) (by kernel_rfl) (by simp [Tryd.ntmps74]) rfl ?_
  obtain ⟨m, t, st, r, mi⟩ := s
  simp only at hm ht
  simp only [stP, asksB]
  simp
  refine pcall_of (token52 m hm) (by simp) ?_
  rw [show (decide (m ≠ []) && m.all tokB) = tkB m from rfl]
  cases h1 : tkB m with
  | false => simp [Tryd.results74]
  | true =>
  by_cases h2 : m.length ≤ 32
  case neg =>
    have d2 : ¬ (m.length : Int) ≤ 32 := by omega
    simp [h2, d2, Tryd.results74]
  have d2 : (m.length : Int) ≤ 32 := by omega
  simp [h2, d2]
  refine pcall_of (visible53 t ht) (by simp) ?_
  cases h3 : visB t with
  | false => simp [Tryd.results74]
  | true =>
  by_cases h4 : t.length ≤ 8000
  case neg =>
    have d4 : ¬ (t.length : Int) ≤ 8000 := by omega
    simp [h4, d4, Tryd.results74]
  have d4 : (t.length : Int) ≤ 8000 := by omega
  by_cases h5 : st = 0
  case neg =>
    have d5 : (st == 0) = false := by simpa using h5
    simp [h4, d4, h5, d5, Tryd.results74]
  subst h5
  simp [h4, d4, Tryd.results74]
set_option maxHeartbeats 2000000 in
set_option maxRecDepth 100000 in
theorem answers75 (s : StV) (hr : s.r.length ≤ 1000000000) : PureC Tryd.prog 75 [stP s] (.bool (answB s)) := by
  refine pure_of_aw (ys := [_]) [] [] [] mixed Tryd.func75 rfl (by kernel_rfl) (by kernel_rfl) (by simp [Tryd.ntmps75]) rfl ?_
  obtain ⟨m, t, st, r, mi⟩ := s
  simp only at hr
  simp only [stP, answB]
  simp
  by_cases h1 : m = []
  case neg =>
    have d1 : m.isEmpty = false := by simpa using h1
    simp [h1, d1, Tryd.results75]
  subst h1
  by_cases h2 : t = []
  case neg =>
    have d1 : t.isEmpty = false := by simpa using h2
    simp [h2, d1, Tryd.results75]
  subst h2
  by_cases h3 : 100 ≤ st
  case neg => simp [h3, Tryd.results75]
  by_cases h4 : st ≤ 999
  case neg => simp [h3, h4, Tryd.results75]
  simp [h3, h4]
  refine pcall_of (value61 r hr) (by simp) ?_
  cases h5 : valB r with
  | false => simp [Tryd.results75]
  | true =>
  by_cases h6 : r.length ≤ 200
  · have d6 : (r.length : Int) ≤ 200 := by omega
    simp [h6, d6, Tryd.results75]
  · have d6 : ¬ (r.length : Int) ≤ 200 := by omega
    simp [h6, d6, Tryd.results75]
theorem right_eq (s : StV) : rightB s = ((decide (s.mi = 0) || decide (s.mi = 1)) && (asksB s || answB s)) := by
  unfold rightB asksB answB
  rw [val_same]
  by_cases c : s.mi < 0 ∨ 1 < s.mi
  · rw [if_pos c]
    have c1 : ¬ s.mi = 0 := by omega
    have c2 : ¬ s.mi = 1 := by omega
    simp [c1, c2]
  · rw [if_neg c]
    have c1 : (decide (s.mi = 0) || decide (s.mi = 1)) = true := by simp; omega
    rw [c1, Bool.true_and]
    by_cases d : s.st = 0
    · rw [if_pos d]
      simp [d]
    · rw [if_neg d]
      simp [d]
set_option maxHeartbeats 1000000 in
set_option maxRecDepth 100000 in
theorem right37 (s : StV) (hm : s.m.length ≤ 1000000000) (ht : s.t.length ≤ 1000000000) (hr : s.r.length ≤ 1000000000) : PureC Tryd.prog 37 [stP s] (.bool (rightB s)) := by
  refine pure_of_aw (ys := [_]) [] [] [] mixed Tryd.func37 rfl (by kernel_rfl) (by kernel_rfl) (by simp [Tryd.ntmps37]) rfl ?_
  rw [right_eq]
  have hA := asks74 s hm ht
  have hB := answers75 s hr
  generalize asksB s = A at *
  generalize answB s = B at *
  obtain ⟨m, t, st, r, mi⟩ := s
  simp only [stP] at hA hB ⊢
  by_cases c1 : mi = 0
  · subst c1
    simp
    refine pcall_of hA (by simp) ?_
    cases A with
    | true => simp [Tryd.results37]
    | false =>
      simp
      refine pcall_of hB (by simp) ?_
      simp [Tryd.results37]
  have d1 : (mi == 0) = false := by simpa using c1
  by_cases c2 : mi = 1
  · subst c2
    simp
    refine pcall_of hA (by simp) ?_
    cases A with
    | true => simp [Tryd.results37]
    | false =>
      simp
      refine pcall_of hB (by simp) ?_
      simp [Tryd.results37]
  have d2 : (mi == 1) = false := by simpa using c2
  simp [c1, c2, d1, d2, Tryd.results37]
end Go.Av

/-! part Q40 -/
namespace Go.Av
open Go.Proofs

/-- texts, with one between them -/
def joinB (sep : List UInt8) : List (List UInt8) → List UInt8
  | [] => []
  | [x] => x
  | x :: y :: l => x ++ sep ++ joinB sep (y :: l)
set_option maxHeartbeats 2000000 in
set_option maxRecDepth 100000 in
theorem print36 (hJ : ∀ a b c : List UInt8, a.length + b.length + c.length ≤ 1000000 → PureC Tryd.prog 72 [.sl [.str a, .str b, .str c], .str [32]] (.str (a ++ 32 :: (b ++ 32 :: c)))) (s : StV) (hs : StOk s) (hm : s.m.length ≤ 1000000000) (ht : s.t.length ≤ 1000000000) (hr : s.r.length ≤ 1000000000) (h : rightB s = true) :
    PureC Tryd.prog 36 [stP s] (.tp [.sl (bytesPC (printB s)), .int 0]) := by
  refine pure_of_aw (ys := [_, _]) [] [] [] mixed Tryd.func36 rfl (by kernel_rfl) (by kernel_rfl) (by simp [Tryd.ntmps36]) rfl ?_
  obtain ⟨q1, q2, q3, q4, q5, q6, q7⟩ := hs
  have hR := right37 s hm ht hr
  rw [h] at hR
  have hl := print_len h
  have ha := right_ask h
  have hb := right_ans h
  have l1 := dec_len 19 s.mi.toNat (by omega)
  have l2 := dec_len 19 s.st.toNat (by omega)
  have pa := @print_ask s
  have pb := @print_ans s
  unfold lineA at pa
  unfold lineR at pb
  generalize printB s = P at *
  obtain ⟨m, t, st, r, mi⟩ := s
  simp only at hm ht hr q1 q2 q3 q4 q5 q6 q7 ha hb l1 l2 pa pb
  simp only [stP] at hR ⊢
  simp
  refine pcall_of hR (by simp) ?_
  simp
  refine pcall_of (print71 mi q6 q7) (by simp) ?_
  have e7 : 7 + (dec mi.toNat).length ≤ 9223372036854775807 := by omega
  simp [e7]
  refine call_of (print71 st q4 q5) ?_
  by_cases c : st = 0
  · obtain ⟨a1, a2, a3, a4, a5, a6, a7⟩ := ha c
    subst c
    simp
    refine pcall_of (hJ m t (72 :: 84 :: 84 :: 80 :: 47 :: 49 :: 46 :: dec mi.toNat) (by simp; omega)) (by simp) ?_
    have e := pa rfl
    simp [verB] at e
    subst e
    simp at hl
    simp [Tryd.results36]
    omega
  · obtain ⟨a1, a2, a3, a4, a5, a6, a7, a8⟩ := hb c
    have d : (st == 0) = false := by simpa using c
    simp [c, d]
    refine pcall_of (hJ (72 :: 84 :: 84 :: 80 :: 47 :: 49 :: 46 :: dec mi.toNat) (dec st.toNat) r (by simp; omega)) (by simp) ?_
    have e := pb c
    simp [verB] at e
    subst e
    simp at hl
    simp [Tryd.results36]
    omega
theorem print36n (s : StV) (hm : s.m.length ≤ 1000000000) (ht : s.t.length ≤ 1000000000) (hr : s.r.length ≤ 1000000000) (h : rightB s = false) : PureC Tryd.prog 36 [stP s] (.tp [.nil, .int 10]) := by
  refine pure_of_aw (ys := [_, _]) [] [] [] mixed Tryd.func36 rfl (by kernel_rfl) (by kernel_rfl) (by simp [Tryd.ntmps36]) rfl ?_
  have hR := right37 s hm ht hr
  rw [h] at hR
  obtain ⟨m, t, st, r, mi⟩ := s
  simp only [stP] at hR ⊢
  simp
  refine pcall_of hR (by simp) ?_
  simp [Tryd.results36]
end Go.Av

/-! part TrydJoin -/
namespace Go.Proofs
open Go.Shelf
def Tryd.lays156_ren : Go.Shelf.Ren := ⟨fun | 156 => 72 | 165 => 103 | 166 => 80 | 169 => 82 | 240 => 106 | 241 => 119 | 276 => 131 | 277 => 146 | n => n, fun | 31 => 36 | 9 => 9 | 3 => 3 | 4 => 4 | 0 => 0 | 20 => 20 | 72 => 101 | 76 => 104 | 70 => 99 | 37 => 22 | 75 => 103 | 127 => 125 | 164 => 142 | 5 => 5 | 80 => 108 | n => n, fun | n => n⟩
theorem Tryd.lays156 : Go.Proofs.Lays.n156 Tryd.prog Tryd.lays156_ren := {
  mixed := by kernel_rfl
  f156 := Tryd.func72.trans (congrArg some (by kernel_rfl))
  f165 := Tryd.func103.trans (congrArg some (by kernel_rfl))
  f166 := Tryd.func80.trans (congrArg some (by kernel_rfl))
  f169 := Tryd.func82.trans (congrArg some (by kernel_rfl))
  f240 := Tryd.func106.trans (congrArg some (by kernel_rfl))
  f241 := Tryd.func119.trans (congrArg some (by kernel_rfl))
  f276 := Tryd.func131.trans (congrArg some (by kernel_rfl))
  f277 := Tryd.func146.trans (congrArg some (by kernel_rfl))
  t0 := Tryd.underlying0
  a0 := Tryd.isAgg0
  z0 := Tryd.sizeOf0
  v0 := Tryd.zeroValue0
  t3 := Tryd.underlying3
  a3 := Tryd.isAgg3
  z3 := Tryd.sizeOf3
  v3 := Tryd.zeroValue3
  t4 := Tryd.underlying4
  a4 := Tryd.isAgg4
  z4 := Tryd.sizeOf4
  v4 := Tryd.zeroValue4
  t9 := Tryd.underlying9
  a9 := Tryd.isAgg9
  z9 := Tryd.sizeOf9
  v9 := Tryd.zeroValue9
  t20 := Tryd.underlying20
  a20 := Tryd.isAgg20
  z20 := Tryd.sizeOf20
  v20 := Tryd.zeroValue20
  t31 := Tryd.underlying36
  a31 := Tryd.isAgg36
  z31 := Tryd.sizeOf36
  v31 := Tryd.zeroValue36
  t37 := Tryd.underlying22
  a37 := Tryd.isAgg22
  z37 := Tryd.sizeOf22
  v37 := Tryd.zeroValue22
  t70 := Tryd.underlying99
  a70 := Tryd.isAgg99
  z70 := Tryd.sizeOf99
  v70 := Tryd.zeroValue99
  t72 := Tryd.underlying101
  a72 := Tryd.isAgg101
  z72 := Tryd.sizeOf101
  v72 := Tryd.zeroValue101
  t75 := Tryd.underlying103
  a75 := Tryd.isAgg103
  z75 := Tryd.sizeOf103
  v75 := Tryd.zeroValue103
  t76 := Tryd.underlying104
  a76 := Tryd.isAgg104
  z76 := Tryd.sizeOf104
  v76 := Tryd.zeroValue104
  t127 := Tryd.underlying125
  a127 := Tryd.isAgg125
  z127 := Tryd.sizeOf125
  v127 := Tryd.zeroValue125
  t164 := Tryd.underlying142
  a164 := Tryd.isAgg142
  z164 := Tryd.sizeOf142
  v164 := Tryd.zeroValue142 }
theorem Tryd.Builder_Extra_156 : Builder.Extra Tryd.prog Tryd.lays156_ren := {
  sizeBuilder := by kernel_rfl
  liesBuilder := by kernel_rfl
  t5 := Tryd.underlying5
  a5 := Tryd.isAgg5
  z5 := Tryd.sizeOf5
  v5 := Tryd.zeroValue5
  infoByte := by kernel_rfl
  cellsByte := by kernel_rfl
  sizeByte := by kernel_rfl
  neB5 := by decide }
end Go.Proofs

/-! part Q41 -/
namespace Go.Av
open Go.Proofs Go.RowKit

theorem reps_strs_inv {M : Mem} : ∀ {l : List (List UInt8)} {us : List Value}, Reps M us (l.map PC.str) → us = l.map fun s => Value.string ⟨s.toArray⟩
  | [], _, .nil => rfl
  | a :: l, _, .cons h hs => by
    cases h
    rw [reps_strs_inv hs]; rfl
theorem cells_strs (l : List (List UInt8)) : cellsOf (l.map fun s => Value.string ⟨s.toArray⟩) = l.map fun s => Value.string ⟨s.toArray⟩ := by
  induction l with
  | nil => rfl
  | cons a l ih =>
    simp only [cellsOf, List.map_cons, List.flatMap_cons] at ih ⊢
    rw [ih]; simp [Value.cells]
theorem join72 (xs : List (List UInt8)) (sep : List UInt8) (hN : xs.length ≤ 140737488355328) (hl : (Lib.join xs sep).length ≤ 140737488355328) :
    PureC Tryd.prog 72 [.sl (xs.map PC.str), .str sep] (.str (Lib.join xs sep)) := by
  refine ⟨⟨_, Tryd.func72, by kernel_rfl, by kernel_rfl⟩, fun M w vs hH hr => ?_⟩
  cases hr with
  | cons h hs =>
  cases hs with
  | cons h2 hs =>
  cases hs
  cases h2
  have noneC : ∀ (a : Option Addr), xs = [] → Calls Tryd.prog 72 #[.slice a 0 0, strV sep] w (After M w (.str (Lib.join xs sep))) := fun a hx => by
    subst hx
    refine (Any.strings_Join_none Tryd.lays156 Tryd.Builder_Extra_156 a 0 ⟨sep.toArray⟩ w).mono fun e w' ⟨h1, h2⟩ => ?_
    subst h2
    exact ⟨_, M, h1, .sc _ rfl, hH, Mem.le_refl _, fun _ _ => rfl, Below.refl _ _⟩
  generalize hz : xs.map PC.str = zs at h
  cases h with
  | nilsl => exact noneC _ (by simpa using hz)
  | sl0 a => exact noneC _ (by simpa using hz)
  | sl hn hc hm hsz hu h1c hat hrs =>
    rename_i b off n cap sz us
    subst hz
    have hus := reps_strs_inv hrs
    subst hus
    rw [cells_strs] at hat
    have hn' : n = xs.length := by simpa using hn.symm
    subst hn'
    rcases Nat.eq_zero_or_pos xs.length with h0 | h0
    · have hx : xs = [] := List.eq_nil_of_length_eq_zero h0
      subst hx
      refine (Any.strings_Join_none Tryd.lays156 Tryd.Builder_Extra_156 _ cap ⟨sep.toArray⟩ w).mono fun e w' ⟨h1, h2⟩ => ?_
      subst h2
      exact ⟨_, M, h1, .sc _ rfl, hH, Mem.le_refl _, fun _ _ => rfl, Below.refl _ _⟩
    · have hcell : ∀ (j : Nat) x, (xs.map fun s => (⟨s.toArray⟩ : ByteArray))[j]? = some x → w.cell? ⟨b, off + j, none⟩ = some (.string x) := fun j x e => by
        refine hH _ _ _ (hat j _ ?_)
        rw [List.getElem?_map] at e ⊢
        cases hj : xs[j]? with
        | none => rw [hj] at e; cases e
        | some y => rw [hj] at e; simp at e; subst e; rfl
      have hb : b < w.heap.size := by
        have hx0 : xs[0]? = some xs[0] := List.getElem?_eq_getElem h0
        exact World.block_lt_of_cell? w _ (hcell 0 ⟨xs[0].toArray⟩ (by rw [List.getElem?_map, hx0]; rfl))
      have hmm : (xs.map fun s => (⟨s.toArray⟩ : ByteArray)).map (·.data.toList) = xs := by
        rw [List.map_map]
        conv => rhs; rw [← List.map_id xs]
        apply List.map_congr_left; intro a _; simp
      have key := Any.strings_Join Tryd.lays156 Tryd.Builder_Extra_156 b off cap (xs.map fun s => (⟨s.toArray⟩ : ByteArray)) ⟨sep.toArray⟩ w hcell hb (by simpa using hN) (by simpa using hc) (by rw [hmm]; simpa using hl)
      rw [hmm] at key
      simp only [List.length_map, List.toList_toArray] at key
      refine key.mono fun e w' ⟨h1, h2⟩ => ?_
      exact ⟨_, M, h1, .sc _ rfl, holds_below hH h2, Mem.le_refl _, fun _ _ => rfl, h2⟩
end Go.Av

/-! part Q42 -/
namespace Go.Av
open Go.Proofs

def dec3 (n : Nat) : List UInt8 := [dgc (n / 10 / 10), dgc (n / 10 % 10), dgc (n % 10)]
theorem dec_dec3 {n : Nat} (h : 100 ≤ n) (h2 : n ≤ 999) : dec n = dec3 n := by
  rw [dec_ge (by omega), dec_ge (by omega), dec_lt (by omega)]; rfl
theorem num_dec {n : Nat} (h : 100 ≤ n) (h2 : n ≤ 999) : numB 999 (dec n) = ((n : Int), 0) := by
  have hall : ((List.range 1000).all fun n => decide (n < 100) || decide (numB 999 (dec3 n) = ((n : Int), 0))) = true := by kernel_rfl
  have := List.all_eq_true.1 hall n (List.mem_range.2 (by omega))
  rw [dec_dec3 h h2]
  have hn : ¬ n < 100 := by omega
  simpa [hn] using this
theorem min_ver {k : Nat} (h : k ≤ 1) : minB (verB ++ dec k) = some k := by
  have : k = 0 ∨ k = 1 := by omega
  rcases this with rfl | rfl
  · rw [dec_lt (by omega)]; rfl
  · rw [dec_lt (by omega)]; rfl
theorem parse_ask {s : StV} (h : rightB s = true) (h0 : s.st = 0) (tail : List UInt8) : reqB (printB s ++ tail) = (s, ((printB s).length : Int), 0) := by
  have hL := lineA_ok h h0
  obtain ⟨a1, a2, a3, a4, a5, a6, a7⟩ := right_ask h h0
  rw [print_ask h0]
  have e : lineA s ++ [13, 10] ++ tail = lineA s ++ 13 :: 10 :: tail := by simp
  have hf := line_full (tail := tail) hL.1 (most := 8200) (by omega)
  rw [← rreq_eq]
  unfold rreqB
  rw [e, hf]
  simp only
  rw [if_pos trivial]
  have hl : (lineA s ++ [(13 : UInt8), 10]).length = (lineA s).length + 2 := by simp
  rw [hl]
  have hz : lineA s = s.m ++ 32 :: (s.t ++ 32 :: (verB ++ dec s.mi.toNat)) := rfl
  generalize (((lineA s).length + 2 : Nat) : Int) = N
  rw [hz, rreqS_line _ _ _ _ (tk_noB a1) (vis_noB a3), min_ver (by omega)]
  simp only
  rw [if_pos ⟨a1, a3⟩, if_pos ⟨a2, a4⟩]
  obtain ⟨m, t, st, r, mi⟩ := s
  simp only at h0 a5 a6 a7
  subst h0; subst a5
  have : ((mi.toNat : Nat) : Int) = mi := by omega
  simp only [this]
theorem parse_ans {s : StV} (h : rightB s = true) (h0 : s.st ≠ 0) (tail : List UInt8) : resB (printB s ++ tail) = (s, ((printB s).length : Int), 0) := by
  have hL := lineR_ok h h0
  obtain ⟨a1, a2, a3, a4, a5, a6, a7, a8⟩ := right_ans h h0
  rw [print_ans h0]
  have e : lineR s ++ [13, 10] ++ tail = lineR s ++ 13 :: 10 :: tail := by simp
  have hf := line_full (tail := tail) hL.1 (most := 300) (by omega)
  rw [← rres_eq]
  unfold rresB
  rw [e, hf]
  simp only
  rw [if_pos trivial]
  have hl : (lineR s ++ [(13 : UInt8), 10]).length = (lineR s).length + 2 := by simp
  rw [hl]
  have hz : lineR s = (verB ++ dec s.mi.toNat) ++ 32 :: (dec s.st.toNat ++ 32 :: s.r) := by unfold lineR; simp
  generalize (((lineR s).length + 2 : Nat) : Int) = N
  have l1 := dec_small (n := s.mi.toNat) (by omega)
  have l3 := dec_three (n := s.st.toNat) (by omega) (by omega)
  rw [hz, rresS_line _ _ _ _ (by simp [verB, l1]) l3, num_dec (by omega) (by omega), if_neg (by simp; omega), min_ver (by omega)]
  simp only
  rw [if_pos a5, if_pos a6]
  obtain ⟨m, t, st, r, mi⟩ := s
  simp only at h0 a1 a2 a3 a7 a8
  subst a1; subst a2
  have e1 : ((mi.toNat : Nat) : Int) = mi := by omega
  have e2 : ((st.toNat : Nat) : Int) = st := by omega
  simp only [e1, e2]
/-- unlike right lines have unlike texts -/
theorem print_inj {s u : StV} (h : rightB s = true) (h' : rightB u = true) (e : printB s = printB u) : s = u := by
  by_cases h0 : s.st = 0
  · have p1 := parse_ask h h0 []
    by_cases k0 : u.st = 0
    · have p2 := parse_ask h' k0 []
      rw [e] at p1
      exact (congrArg (·.1) (p1.symm.trans p2))
    · have p2 := parse_ans h' k0 []
      rw [e] at p1
      have := not_both _ (by rw [p1])
      rw [p2] at this
      exact absurd rfl this
  · have p1 := parse_ans h h0 []
    by_cases k0 : u.st = 0
    · have p2 := parse_ask h' k0 []
      rw [e] at p1
      have := not_both _ (by rw [p2])
      rw [p1] at this
      exact absurd rfl this
    · have p2 := parse_ans h' k0 []
      rw [e] at p1
      exact (congrArg (·.1) (p1.symm.trans p2))
end Go.Av

/-! part Q43 -/
namespace Go.Av
open Go.Proofs

theorem join3 (a b c : List UInt8) (h : a.length + b.length + c.length ≤ 1000000) : PureC Tryd.prog 72 [.sl [.str a, .str b, .str c], .str [32]] (.str (a ++ 32 :: (b ++ 32 :: c))) := by
  have e : Lib.join [a, b, c] [32] = a ++ 32 :: (b ++ 32 :: c) := by simp [Lib.join, List.intercalate]
  have := join72 [a, b, c] [32] (by simp) (by rw [e]; simp; omega)
  rw [e] at this
  exact this
theorem printP (s : StV) (hs : StOk s) (hm : s.m.length ≤ 1000000000) (ht : s.t.length ≤ 1000000000) (hr : s.r.length ≤ 1000000000) (h : rightB s = true) :
    PureC Tryd.prog 36 [stP s] (.tp [.sl (bytesPC (printB s)), .int 0]) := print36 join3 s hs hm ht hr h
set_option maxHeartbeats 4000000 in
set_option maxRecDepth 100000 in
theorem law12 (s u : StV) (hs : StOk s) (hu : StOk u) : PureC Tryd.prog 12 [stP s, stP u] (.bool true) := by
  refine pure_of_aw (ys := [_]) [] [] [] mixed Tryd.func12 rfl (by kernel_rfl) (by kernel_rfl) (by simp [Tryd.ntmps12]) rfl ?_
  have hR := rright23 s
  have hR' := rright23 u
  have hP := printP s hs
  have hP' := printP u hu
  have hinj := @print_inj s u
  have hl := @print_len s
  have hl' := @print_len u
  have hpe : s = u → printB s = printB u := fun e => by rw [e]
  generalize printB s = P at *
  generalize printB u = P' at *
  generalize rightB s = R at *
  generalize rightB u = R' at *
  obtain ⟨m, t, st, r, mi⟩ := s
  obtain ⟨m', t', st', r', mi'⟩ := u
  clear hs hu
  simp only [stP] at hR hR' hP hP' hinj hpe ⊢
  simp
  refine pcall_of awake18 (by simp) ?_
  by_cases c1 : m.length ≤ 100
  case neg =>
    have d : (100 : Int) < (m.length : Int) := by omega
    simp [d, show 100 < m.length by omega]
    refine pcall_of awake18 (by simp) ?_
    simp [Tryd.results12]
  have d1 : ¬ (100 : Int) < (m.length : Int) := by omega
  have b1 : ¬ 100 < m.length := by omega
  by_cases c2 : t.length ≤ 2000
  case neg =>
    have d : (2000 : Int) < (t.length : Int) := by omega
    simp [d1, b1, d, show 2000 < t.length by omega]
    refine pcall_of awake18 (by simp) ?_
    simp [Tryd.results12]
  have d2 : ¬ (2000 : Int) < (t.length : Int) := by omega
  have b2 : ¬ 2000 < t.length := by omega
  by_cases c3 : r.length ≤ 300
  case neg =>
    have d : (300 : Int) < (r.length : Int) := by omega
    simp [d1, b1, d2, b2, d, show 300 < r.length by omega]
    refine pcall_of awake18 (by simp) ?_
    simp [Tryd.results12]
  have d3 : ¬ (300 : Int) < (r.length : Int) := by omega
  have b3 : ¬ 300 < r.length := by omega
  by_cases c4 : m'.length ≤ 100
  case neg =>
    have d : (100 : Int) < (m'.length : Int) := by omega
    simp [d1, b1, d2, b2, d3, b3, d, show 100 < m'.length by omega]
    refine pcall_of awake18 (by simp) ?_
    simp [Tryd.results12]
  have d4 : ¬ (100 : Int) < (m'.length : Int) := by omega
  have b4 : ¬ 100 < m'.length := by omega
  by_cases c5 : t'.length ≤ 2000
  case neg =>
    have d : (2000 : Int) < (t'.length : Int) := by omega
    simp [d1, b1, d2, b2, d3, b3, d4, b4, d, show 2000 < t'.length by omega]
    refine pcall_of awake18 (by simp) ?_
    simp [Tryd.results12]
  have d5 : ¬ (2000 : Int) < (t'.length : Int) := by omega
  have b5 : ¬ 2000 < t'.length := by omega
  by_cases c6 : r'.length ≤ 300
  case neg =>
    have d : (300 : Int) < (r'.length : Int) := by omega
    simp [d1, b1, d2, b2, d3, b3, d4, b4, d5, b5, d, show 300 < r'.length by omega]
    refine pcall_of awake18 (by simp) ?_
    simp [Tryd.results12]
  have d6 : ¬ (300 : Int) < (r'.length : Int) := by omega
  have b6 : ¬ 300 < r'.length := by omega
  simp [d1, b1, d2, b2, d3, b3, d4, b4, d5, b5, d6, b6]
  refine pcall_of (hR (by omega) (by omega) (by omega)) (by simp) ?_
  cases R with
  | false =>
    simp
    refine pcall_of awake18 (by simp) ?_
    simp [Tryd.results12]
  | true =>
  simp
  refine pcall_of (hR' (by omega) (by omega) (by omega)) (by simp) ?_
  cases R' with
  | false =>
    simp
    refine pcall_of awake18 (by simp) ?_
    simp [Tryd.results12]
  | true =>
  have hl := hl rfl
  have hl' := hl' rfl
  simp
  refine pcall_of (hP (by omega) (by omega) (by omega) rfl) (by simp) ?_
  simp
  refine pcall_of (hP' (by omega) (by omega) (by omega) rfl) (by simp) ?_
  simp
  rw [Bool.eq_iff_iff]
  simp only [beq_iff_eq, Bool.and_eq_true]
  constructor
  · intro e
    have := hinj rfl rfl e
    simp only [StV.mk.injEq] at this
    exact this
  · intro e
    exact hpe (by simp only [StV.mk.injEq]; exact e)
theorem law12n {x y : PC} (hx : startS x) (hy : startS y) : PureC Tryd.prog 12 [x, y] (.bool true) := by
  obtain ⟨s, rfl, h⟩ := hx
  obtain ⟨u, rfl, h'⟩ := hy
  exact law12 s u h h'
end Go.Av

/-! part Q45 -/
namespace Go.Av
open Go.Proofs

set_option maxHeartbeats 4000000 in
set_option maxRecDepth 100000 in
theorem law11 (s : StV) (hs : StOk s) (tail : List UInt8) (htail : tail.length ≤ 9223372036854775807) : PureC Tryd.prog 11 [stP s, .sl (bytesPC tail)] (.bool true) := by
  refine pure_of_aw (ys := [_]) [] [(13, [(20, .r 1)])] [(1, 2)] mixed Tryd.func11 rfl (by kernel_rfl) (by kernel_rfl) (by simp [Tryd.ntmps11]) rfl ?_
  have hR := rright23 s
  have hR2 := right37 s
  have hP := printP s hs
  have hPn := print36n s
  have hPr := rprint24 s
  have hl := @print_len s
  have pa := @parse_ask s
  have pb := @parse_ans s
  obtain ⟨q1, q2, q3, q4, q5, q6, q7⟩ := hs
  generalize printB s = P at *
  generalize rightB s = R at *
  obtain ⟨m, t, st, r, mi⟩ := s
  simp only at q4 q5 q6 q7 hPr
  simp only [stP] at hR hR2 hP hPn hPr ⊢
  simp
  refine pcall_of awake18 (by simp) ?_
  by_cases c1 : m.length ≤ 200
  case neg =>
    have d : (200 : Int) < (m.length : Int) := by omega
    simp [d, show 200 < m.length by omega]
    refine pcall_of awake18 (by simp) ?_
    simp [Tryd.results11]
  have d1 : ¬ (200 : Int) < (m.length : Int) := by omega
  have b1 : ¬ 200 < m.length := by omega
  by_cases c2 : t.length ≤ 9000
  case neg =>
    have d : (9000 : Int) < (t.length : Int) := by omega
    simp [d1, b1, d, show 9000 < t.length by omega]
    refine pcall_of awake18 (by simp) ?_
    simp [Tryd.results11]
  have d2 : ¬ (9000 : Int) < (t.length : Int) := by omega
  have b2 : ¬ 9000 < t.length := by omega
  by_cases c3 : r.length ≤ 500
  case neg =>
    have d : (500 : Int) < (r.length : Int) := by omega
    simp [d1, b1, d2, b2, d, show 500 < r.length by omega]
    refine pcall_of awake18 (by simp) ?_
    simp [Tryd.results11]
  have d3 : ¬ (500 : Int) < (r.length : Int) := by omega
  have b3 : ¬ 500 < r.length := by omega
  by_cases c4 : tail.length ≤ 300
  case neg =>
    have d : (300 : Int) < (tail.length : Int) := by omega
    simp [d1, b1, d2, b2, d3, b3, d, show 300 < tail.length by omega]
    refine pcall_of awake18 (by simp) ?_
    simp [Tryd.results11]
  have d4 : ¬ (300 : Int) < (tail.length : Int) := by omega
  have b4 : ¬ 300 < tail.length := by omega
  simp [d1, b1, d2, b2, d3, b3, d4, b4]
  cases R with
  | false =>
    refine pcall_of (hPn (by omega) (by omega) (by omega) rfl) (by simp) ?_
    simp
    refine pcall_of (hR (by omega) (by omega) (by omega)) (by simp) ?_
    simp
    refine pcall_of (hR2 (by omega) (by omega) (by omega)) (by simp) ?_
    simp [Tryd.results11]
  | true =>
  have hl := hl rfl
  refine pcall_of (hP (by omega) (by omega) (by omega) rfl) (by simp) ?_
  simp
  refine pcall_of (hR (by omega) (by omega) (by omega)) (by simp) ?_
  simp
  refine pcall_of (hR2 (by omega) (by omega) (by omega)) (by simp) ?_
  have hbp : bytesPC P ++ bytesPC tail = bytesPC (P ++ tail) := by simp [bytesPC]
  simp [hbp]
  refine ⟨fun y hy => bytes_width y hy, by omega, by omega, fun y hy => bytes_width y hy, fun y hy => bytes_width y hy, by omega, by omega, ?_⟩
  have htl : (P ++ tail).length ≤ 1000000 := by rw [List.length_append]; omega
  refine pcall_of (request19 (P ++ tail) htl) (by simp) ?_
  by_cases c : st = 0
  · rw [pa rfl c tail]
    subst c
    simp
    refine call_of (hPr (by omega) (by omega) (by omega) q4 q5 q6 q7) ?_
    simp [Tryd.results11]
  · generalize reqB (P ++ tail) = x
    have d : (st != 0) = true := by simpa using c
    simp [c, d]
    refine pcall_of (response21 (P ++ tail) htl) (by simp) ?_
    rw [pb rfl c tail]
    simp
    refine call_of (hPr (by omega) (by omega) (by omega) q4 q5 q6 q7) ?_
    simp [Tryd.results11]
theorem law11n {x y : PC} (hx : startS x) (hy : bytesS y) : PureC Tryd.prog 11 [x, y] (.bool true) := by
  obtain ⟨s, rfl, h⟩ := hx
  obtain ⟨b, rfl, h'⟩ := hy
  exact law11 s h b h'
end Go.Av
