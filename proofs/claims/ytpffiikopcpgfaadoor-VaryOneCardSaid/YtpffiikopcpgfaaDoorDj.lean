/- octet.Unquote over strings.Builder; what a directive is read as, on both sides. -/
import Derived.Test.YtpffiikopcpgfaaDoorDi
import Derived.Test.YtpffiikopcpgfaaDoorProg
import Derived.Shelf.Lays
import Derived.Shelf.Strings.OnBuilder
import Derived.BigCall
import Derived.Deep.LoopGhost
import Derived.OwnWalk
import Derived.Lib.RabinKarpLaws
set_option linter.all false
/-! part TrydBld -/
namespace Go.Proofs
open Go.Shelf
def Tryd.renB : Go.Shelf.Ren := ⟨fun | 167 => 118 | 166 => 80 | 169 => 82 | 240 => 106 | 276 => 131 | 277 => 146 | 241 => 119 | n => n, fun | 31 => 36 | 9 => 9 | 3 => 3 | 4 => 4 | 0 => 0 | 20 => 20 | 72 => 101 | 76 => 104 | 70 => 99 | 37 => 22 | 75 => 103 | 127 => 125 | 164 => 142 | 5 => 5 | 80 => 108 | n => n, fun | n => n⟩
theorem Tryd.l167 : Go.Proofs.Lays.n167 Tryd.prog Tryd.renB := {
  mixed := by kernel_rfl
  f167 := Tryd.func118.trans (congrArg some (by kernel_rfl))
  f240 := Tryd.func106.trans (congrArg some (by kernel_rfl))
  f276 := Tryd.func131.trans (congrArg some (by kernel_rfl))
  t0 := Tryd.underlying0
  a0 := Tryd.isAgg0
  z0 := Tryd.sizeOf0
  v0 := Tryd.zeroValue0
  t4 := Tryd.underlying4
  a4 := Tryd.isAgg4
  z4 := Tryd.sizeOf4
  v4 := Tryd.zeroValue4
  t5 := Tryd.underlying5
  a5 := Tryd.isAgg5
  z5 := Tryd.sizeOf5
  v5 := Tryd.zeroValue5
  t9 := Tryd.underlying9
  a9 := Tryd.isAgg9
  z9 := Tryd.sizeOf9
  v9 := Tryd.zeroValue9
  t20 := Tryd.underlying20
  a20 := Tryd.isAgg20
  z20 := Tryd.sizeOf20
  v20 := Tryd.zeroValue20
  t37 := Tryd.underlying22
  a37 := Tryd.isAgg22
  z37 := Tryd.sizeOf22
  v37 := Tryd.zeroValue22
  t70 := Tryd.underlying99
  a70 := Tryd.isAgg99
  z70 := Tryd.sizeOf99
  v70 := Tryd.zeroValue99
  t72 := Tryd.underlying101
  a72 := Tryd.isAgg101
  z72 := Tryd.sizeOf101
  v72 := Tryd.zeroValue101
  t75 := Tryd.underlying103
  a75 := Tryd.isAgg103
  z75 := Tryd.sizeOf103
  v75 := Tryd.zeroValue103
  t164 := Tryd.underlying142
  a164 := Tryd.isAgg142
  z164 := Tryd.sizeOf142
  v164 := Tryd.zeroValue142
  }
theorem Tryd.l169 : Go.Proofs.Lays.n169 Tryd.prog Tryd.renB := {
  mixed := by kernel_rfl
  f169 := Tryd.func82.trans (congrArg some (by kernel_rfl))
  t0 := Tryd.underlying0
  a0 := Tryd.isAgg0
  z0 := Tryd.sizeOf0
  v0 := Tryd.zeroValue0
  t3 := Tryd.underlying3
  a3 := Tryd.isAgg3
  z3 := Tryd.sizeOf3
  v3 := Tryd.zeroValue3
  t9 := Tryd.underlying9
  a9 := Tryd.isAgg9
  z9 := Tryd.sizeOf9
  v9 := Tryd.zeroValue9
  t37 := Tryd.underlying22
  a37 := Tryd.isAgg22
  z37 := Tryd.sizeOf22
  v37 := Tryd.zeroValue22
  t70 := Tryd.underlying99
  a70 := Tryd.isAgg99
  z70 := Tryd.sizeOf99
  v70 := Tryd.zeroValue99
  t72 := Tryd.underlying101
  a72 := Tryd.isAgg101
  z72 := Tryd.sizeOf101
  v72 := Tryd.zeroValue101
  t127 := Tryd.underlying125
  a127 := Tryd.isAgg125
  z127 := Tryd.sizeOf125
  v127 := Tryd.zeroValue125
  }
theorem Tryd.l166 : Go.Proofs.Lays.n166 Tryd.prog Tryd.renB := {
  mixed := by kernel_rfl
  f166 := Tryd.func80.trans (congrArg some (by kernel_rfl))
  f240 := Tryd.func106.trans (congrArg some (by kernel_rfl))
  f276 := Tryd.func131.trans (congrArg some (by kernel_rfl))
  t0 := Tryd.underlying0
  a0 := Tryd.isAgg0
  z0 := Tryd.sizeOf0
  v0 := Tryd.zeroValue0
  t3 := Tryd.underlying3
  a3 := Tryd.isAgg3
  z3 := Tryd.sizeOf3
  v3 := Tryd.zeroValue3
  t4 := Tryd.underlying4
  a4 := Tryd.isAgg4
  z4 := Tryd.sizeOf4
  v4 := Tryd.zeroValue4
  t9 := Tryd.underlying9
  a9 := Tryd.isAgg9
  z9 := Tryd.sizeOf9
  v9 := Tryd.zeroValue9
  t20 := Tryd.underlying20
  a20 := Tryd.isAgg20
  z20 := Tryd.sizeOf20
  v20 := Tryd.zeroValue20
  t37 := Tryd.underlying22
  a37 := Tryd.isAgg22
  z37 := Tryd.sizeOf22
  v37 := Tryd.zeroValue22
  t70 := Tryd.underlying99
  a70 := Tryd.isAgg99
  z70 := Tryd.sizeOf99
  v70 := Tryd.zeroValue99
  t72 := Tryd.underlying101
  a72 := Tryd.isAgg101
  z72 := Tryd.sizeOf101
  v72 := Tryd.zeroValue101
  t75 := Tryd.underlying103
  a75 := Tryd.isAgg103
  z75 := Tryd.sizeOf103
  v75 := Tryd.zeroValue103
  t164 := Tryd.underlying142
  a164 := Tryd.isAgg142
  z164 := Tryd.sizeOf142
  v164 := Tryd.zeroValue142
  }
theorem Tryd.bldX : Builder.Extra Tryd.prog Tryd.renB := {
  sizeBuilder := by kernel_rfl
  liesBuilder := by kernel_rfl
  t5 := Tryd.underlying5
  a5 := Tryd.isAgg5
  z5 := Tryd.sizeOf5
  v5 := Tryd.zeroValue5
  infoByte := by kernel_rfl
  cellsByte := by kernel_rfl
  sizeByte := by kernel_rfl
  neB5 := by decide }
end Go.Proofs

/-! part Q57 -/
namespace Go.Av
open Go.Proofs Go.RowKit

set_option maxHeartbeats 1000000 in
theorem plain_any (x : UInt8) (w : World) : Calls Tryd.prog 95 #[.int .u8 x.toNat] w fun e w' => e = .returned (.bool (plnB x)) ∧ w' = w := by
  go_enter Tryd.func95, Tryd.ntmps95
  unfold plnB
  generalize x.toNat = k
  by_cases h1 : 32 ≤ k
  · have d1 : (32 : Int) ≤ (k : Int) := by omega
    by_cases h2 : k = 127
    · subst h2
      go_wp2
      go_ret
      exact ⟨rfl, rfl⟩
    · have d2 : ¬ (k : Int) = 127 := by omega
      go_wp2
      go_ret
      refine ⟨?_, rfl⟩
      simp [h1, h2]
  · have d1 : ¬ (32 : Int) ≤ (k : Int) := by omega
    by_cases h2 : k = 9
    · subst h2
      go_wp2
      go_ret
      exact ⟨rfl, rfl⟩
    · have d2 : ¬ (k : Int) = 9 := by omega
      go_wp2
      go_ret
      refine ⟨?_, rfl⟩
      simp [h1, h2]
      omega
theorem byteCells_snoc (b : List UInt8) (x : UInt8) : Lib.byteCells b ++ [.int .u8 x.toNat] = Lib.byteCells (b ++ [x]) := by
  simp [Lib.byteCells]
set_option maxHeartbeats 4000000 in
set_option maxRecDepth 1000000 in
theorem unquote_any (s : ByteArray) (w : World) (hs : s.size ≤ 1000000) (h0 : 0 < s.size) (hq : s[0]'h0 = 34) :
    Calls Tryd.prog 101 #[.string s] w fun e w' => e = .returned (.tuple #[.string ⟨(unqG [] 1 (s.data.toList.drop 1)).1.toArray⟩, .int .i64 (unqG [] 1 (s.data.toList.drop 1)).2.1, .int .i64 (unqG [] 1 (s.data.toList.drop 1)).2.2]) ∧ Below w.heap.size w w' := by
  generalize hR : unqG [] 1 (s.data.toList.drop 1) = R
  have hx : ((s.extract 0 1).toList == [34]) = true := by
    have e : s.extract 0 1 = ⟨#[34]⟩ := by
      apply ByteArray.ext
      apply Array.ext'
      have hl : s.data.toList[0]? = some 34 := by rw [← hq]; exact Lib.data_getElem? s 0 h0
      simp only [ByteArray.data_extract, Array.toList_extract]
      cases hs : s.data.toList with
      | nil => rw [hs] at hl; simp at hl
      | cons a m => rw [hs] at hl; simp at hl; subst hl; simp [List.extract]
    rw [e]
    have e2 : (⟨#[34]⟩ : ByteArray).toList = [34] := by rw [ByteArray.toList_mk]
    rw [e2]; rfl
  have HX : Aside (((s.extract 0 1).toList == [34]) = true) := hx
  go_enter Tryd.func101, Tryd.ntmps101
  go_wp2
  go_loopg [6] s.size (fun g s6 wx => ∃ (k : Nat) (b : List UInt8), s6 = .int .i64 k ∧ 1 ≤ k ∧ k ≤ s.size ∧ s.size ≤ k + g ∧ b.length ≤ k ∧ Lib.IsBuilder 101 5 w.heap.size w.heap.size (Lib.byteCells b) wx ∧ Below w.heap.size w wx ∧ unqG b k (s.data.toList.drop k) = R)
  case atStart =>
    exact ⟨1, [], rfl, Nat.le_refl _, h0, by omega, by simp, Lib.fresh_isBuilder 101 5 w, (Below.refl _ w).alloc (Nat.le_refl _) _, hR⟩
  case round =>
    obtain ⟨k, b, rfl, hk1, hks, hkg, hbl, hI, hB, hU⟩ := hrel
    have HU : Aside (unqG b k (s.data.toList.drop k) = R) := hU
    clear hU
    have HI : Aside (Lib.IsBuilder 101 5 w.heap.size w.heap.size (Lib.byteCells b) wr) := hI
    have hBs : w.heap.size ≤ wr.heap.size := hB.size
    by_cases hk : k < s.size
    case neg =>
      obtain rfl : k = s.size := by omega
      have hkz : ¬ ((s.size : Int) < (s.size : Int)) := by omega
      have hR2 := HU.out
      rw [List.drop_of_length_le (by rw [← Lib.size_eq]; exact Nat.le_refl _)] at hR2
      have hR3 : unqE = R := hR2
      subst hR3
      go_wp2
      go_ret3
      exact ⟨rfl, hB⟩
    have hkz : (k : Int) < (s.size : Int) := by omega
    obtain ⟨x, hxk⟩ : ∃ x : UInt8, s[k]'hk = x := ⟨_, rfl⟩
    have hxl : s.data.toList[k]? = some x := by rw [← hxk]; exact Lib.data_getElem? s k hk
    have hdrop : s.data.toList.drop k = x :: s.data.toList.drop (k + 1) := by
      have hlt := (List.getElem?_eq_some_iff.1 hxl).1
      rw [List.drop_eq_getElem_cons hlt, (List.getElem?_eq_some_iff.1 hxl).2]
    have hR2 := HU.out
    rw [hdrop, unqG_cons] at hR2
    by_cases a1 : x = 34
    · subst a1
      rw [if_pos rfl] at hR2
      subst hR2
      go_wp2_with (go_at_call 82; refine (Any.Builder_String_any Tryd.l169 Tryd.bldX w.heap.size w.heap.size b _ hI hBs).mono ?_)
      rintro e W1 ⟨rfl, b1⟩
      go_wp2
      go_ret3
      exact ⟨by simp, hB.trans b1⟩
    rw [if_neg a1] at hR2
    have n1 : ¬ ((x.toNat : Int) = 34) := fun h => a1 (UInt8.toNat_inj.1 (Int.ofNat_inj.1 h))
    by_cases a2 : x = 92
    · rw [if_pos a2] at hR2
      subst a2
      by_cases hk2 : k + 1 < s.size
      case neg =>
        have hkz2 : ¬ ((k : Int) + 1 < (s.size : Int)) := by omega
        rw [if_pos (List.drop_of_length_le (by rw [← Lib.size_eq]; omega))] at hR2
        subst hR2
        go_wp2
        go_ret3
        exact ⟨rfl, hB⟩
      have hkz2 : (k : Int) + 1 < (s.size : Int) := by omega
      obtain ⟨y, hyk⟩ : ∃ y : UInt8, s[k + 1]'hk2 = y := ⟨_, rfl⟩
      have hyl : s.data.toList[k + 1]? = some y := by rw [← hyk]; exact Lib.data_getElem? s (k + 1) hk2
      have hdrop2 : s.data.toList.drop (k + 1) = y :: s.data.toList.drop (k + 2) := by
        have hlt := (List.getElem?_eq_some_iff.1 hyl).1
        rw [List.drop_eq_getElem_cons hlt, (List.getElem?_eq_some_iff.1 hyl).2]
      rw [hdrop2, if_neg (List.cons_ne_nil _ _)] at hR2
      simp only [List.headD_cons, List.drop_succ_cons, List.drop_zero] at hR2
      cases hp : plnB y with
      | false =>
        rw [hp, if_neg (by simp)] at hR2
        subst hR2
        go_wp2_with (go_at_call 95; refine (plain_any y _).mono ?_; rintro e w' ⟨rfl, rfl⟩)
        go_ret3
        exact ⟨rfl, hB⟩
      | true =>
        rw [hp, if_pos rfl] at hR2
        cases gk with
        | zero => omega
        | succ g =>
        go_wp2_with (first
          | (go_at_call 95; refine (plain_any y _).mono ?_; rintro e w' ⟨rfl, rfl⟩)
          | (go_at_call 118; refine (Any.Builder_WriteByte Tryd.l167 Tryd.bldX w.heap.size w.heap.size (Lib.byteCells b) y.toNat _ hI (by rw [Lib.byteCells_length]; omega) hBs).mono ?_))
        rintro e W1 ⟨rfl, h1, b1⟩
        rw [byteCells_snoc] at h1
        go_wp2
        go_roundg g
        case rel => exact ⟨k + 2, b ++ [y], by first | rfl | (congr 1; omega), by omega, by omega, by omega, by simp; omega, .inr h1, hB.trans b1, hR2⟩
        case measure => omega
    · rw [if_neg a2] at hR2
      have n2 : ¬ ((x.toNat : Int) = 92) := fun h => a2 (UInt8.toNat_inj.1 (Int.ofNat_inj.1 h))
      cases hp : plnB x with
      | false =>
        rw [hp, if_neg (by simp)] at hR2
        subst hR2
        go_wp2_with (go_at_call 95; refine (plain_any x _).mono ?_; rintro e w' ⟨rfl, rfl⟩)
        go_ret3
        exact ⟨rfl, hB⟩
      | true =>
        rw [hp, if_pos rfl] at hR2
        cases gk with
        | zero => omega
        | succ g =>
        go_wp2_with (first
          | (go_at_call 95; refine (plain_any x _).mono ?_; rintro e w' ⟨rfl, rfl⟩)
          | (go_at_call 118; refine (Any.Builder_WriteByte Tryd.l167 Tryd.bldX w.heap.size w.heap.size (Lib.byteCells b) x.toNat _ hI (by rw [Lib.byteCells_length]; omega) hBs).mono ?_))
        rintro e W1 ⟨rfl, h1, b1⟩
        rw [byteCells_snoc] at h1
        go_wp2
        go_roundg g
        case rel => exact ⟨k + 1, b ++ [x], by first | rfl | (congr 1; omega), by omega, by omega, by omega, by simp; omega, .inr h1, hB.trans b1, hR2⟩
        case measure => omega
end Go.Av

/-! part Q58 -/
namespace Go.Av
open Go.Proofs Go.RowKit

theorem unquote101 (l : List UInt8) (hl : l.length ≤ 1000000) : PureC Tryd.prog 101 [.str l] (.tp [.str (unqB l).1, .int (unqB l).2.1, .int (unqB l).2.2]) := by
  by_cases h : l.head? = some 34
  · cases l with
    | nil => simp at h
    | cons a m =>
      simp at h
      subst h
      refine ⟨⟨_, Tryd.func101, by kernel_rfl, by kernel_rfl⟩, fun M w vs hH hr => ?_⟩
      cases hr with
      | cons h hs =>
      cases hs
      cases h
      have key := unquote_any ⟨((34 : UInt8) :: m).toArray⟩ w (by simpa [ByteArray.size] using hl) (by simp [ByteArray.size]) (by rfl)
      simp only [List.toList_toArray, List.drop_succ_cons, List.drop_zero] at key
      have e : unqB ((34 : UInt8) :: m) = unqG [] 1 m := by simp [unqB]
      rw [e]
      refine key.mono fun e w' ⟨h1, h2⟩ => ?_
      exact ⟨_, M, h1, Rep.tup (vs := [_, _, _]) (.cons (.sc _ rfl) (.cons (.sc _ rfl) (.cons (.sc _ rfl) .nil))), holds_below hH h2, Mem.le_refl _, fun _ _ => rfl, h2⟩
  · have e : unqB l = unqE := by
      cases l with
      | nil => rfl
      | cons a m => simp only [unqB]; rw [if_neg (by intro e; apply h; rw [e]; rfl)]
    rw [e]
    refine pure_of_aw (ys := [_, _, _]) [] [] [] mixed Tryd.func101 rfl (by kernel_rfl) (by kernel_rfl) (by simp [Tryd.ntmps101]) rfl ?_
    simp
    refine pcall_of (prefix117 l 34) (by simp) ?_
    simp [h, unqE, Tryd.results101]
/-- what a directive is read as: its name, its argument, whether it has one; whether it says anything -/
def readB (l : List UInt8) : List UInt8 × List UInt8 × Bool × Bool :=
  let c := cutB l 61
  if tkB c.1 = false then (lowB c.1, c.2.1, c.2.2, false) else
  if c.2.2 = false ∨ tkB c.2.1 = true then (lowB c.1, c.2.1, c.2.2, true) else
  let u := unqB c.2.1
  (lowB c.1, u.1, c.2.2, decide (u.2.2 = 0) && (u.2.1 == (c.2.1.length : Int)))
theorem cutB_len (l : List UInt8) (c : UInt8) : (cutB l c).1.length ≤ l.length ∧ (cutB l c).2.1.length ≤ l.length := by
  unfold cutB; split
  · simp
  · simp; omega
set_option maxHeartbeats 2000000 in
set_option maxRecDepth 100000 in
theorem read64 (l : List UInt8) (hl : l.length ≤ 1000000) : PureC Tryd.prog 64 [.str l] (.tp [.agg false [.str (readB l).1, .str (readB l).2.1, .bool (readB l).2.2.1], .bool (readB l).2.2.2]) := by
  refine pure_of_aw (ys := [_, _]) [] [(9, [(0, .r 1), (9, .s 2 [1])])] [(1, 1), (2, 0)] mixed Tryd.func64 rfl (by kernel_rfl) (by kernel_rfl) (by simp [Tryd.ntmps64]) rfl ?_
  have hc := cutB_len l 61
  have hcut := cut100 l 61 (by omega)
  unfold readB
  generalize cutB l 61 = c at *
  obtain ⟨n, a, has⟩ := c
  simp only at hc hcut ⊢
  simp
  refine pcall_of hcut (by simp) ?_
  simp
  refine pcall_of (lower76 n (by omega)) (by simp) ?_
  simp
  refine pcall_of (token52 n (by omega)) (by simp) ?_
  rw [show (decide (n ≠ []) && n.all tokB) = tkB n from rfl]
  cases h1 : tkB n with
  | false => simp [Tryd.results64]
  | true =>
  cases has with
  | false => simp [Tryd.results64]
  | true =>
  simp
  refine pcall_of (token52 a (by omega)) (by simp) ?_
  rw [show (decide (a ≠ []) && a.all tokB) = tkB a from rfl]
  cases h2 : tkB a with
  | true => simp [Tryd.results64]
  | false =>
  simp
  refine pcall_of (unquote101 a (by omega)) (by simp) ?_
  generalize unqB a = u at *
  obtain ⟨t, k, e⟩ := u
  simp only
  by_cases he : e = 0
  · subst he
    simp [Tryd.results64]
  · have d : (e == 0) = false := by simpa using he
    simp [he, d, Tryd.results64]
end Go.Av

/-! part Q59 -/
namespace Go.Av
open Go.Proofs

def MD : Nat := 2147483647
/-- a directive's number -/
def numD (arg : List UInt8) (has : Bool) (without : Int) : Int := if has = false then without else if (numB MD arg).2 = 12 then 2147483647 else (numB MD arg).1
set_option maxHeartbeats 1000000 in
theorem number67 (n a : List UInt8) (has : Bool) (wo : Int) (hl : a.length ≤ 1000000) : PureC Tryd.prog 67 [.agg false [.str n, .str a, .bool has], .int wo] (.int (numD a has wo)) := by
  refine pure_of_aw (ys := [_]) [] [] [] mixed Tryd.func67 rfl (by kernel_rfl) (by kernel_rfl) (by simp [Tryd.ntmps67]) rfl ?_
  have hn := number60 a MD (by omega) (by decide) (by decide)
  have hm : ((MD : Nat) : Int) = 2147483647 := rfl
  rw [hm] at hn
  unfold numD
  generalize numB MD a = q at *
  obtain ⟨v, e⟩ := q
  simp only at hn ⊢
  cases has with
  | false => simp [Tryd.results67]
  | true =>
    simp
    refine pcall_of hn (by simp) ?_
    by_cases c : e = 12
    · subst c; simp [Tryd.results67]
    · have d : (e == 12) = false := by simpa using c
      simp [c, d, Tryd.results67]
def nm0 : List UInt8 := [110, 111, 45, 115, 116, 111, 114, 101]
def nm1 : List UInt8 := [110, 111, 45, 99, 97, 99, 104, 101]
def nm2 : List UInt8 := [112, 117, 98, 108, 105, 99]
def nm3 : List UInt8 := [112, 114, 105, 118, 97, 116, 101]
def nm4 : List UInt8 := [109, 117, 115, 116, 45, 114, 101, 118, 97, 108, 105, 100, 97, 116, 101]
def nm5 : List UInt8 := [112, 114, 111, 120, 121, 45, 114, 101, 118, 97, 108, 105, 100, 97, 116, 101]
def nm6 : List UInt8 := [111, 110, 108, 121, 45, 105, 102, 45, 99, 97, 99, 104, 101, 100]
def nm7 : List UInt8 := [109, 97, 120, 45, 97, 103, 101]
def nm8 : List UInt8 := [115, 45, 109, 97, 120, 97, 103, 101]
def nm9 : List UInt8 := [109, 97, 120, 45, 115, 116, 97, 108, 101]
def nm10 : List UInt8 := [109, 105, 110, 45, 102, 114, 101, 115, 104]
def flagI (n : List UInt8) : Option Nat := if n = nm0 then some 0 else if n = nm1 then some 1 else if n = nm2 then some 2 else if n = nm3 then some 3 else if n = nm4 then some 4 else if n = nm5 then some 5 else if n = nm6 then some 6 else none
def cntI (n : List UInt8) : Option Nat := if n = nm7 then some 0 else if n = nm8 then some 1 else if n = nm9 then some 2 else if n = nm10 then some 3 else none
def ptrO (id : Nat) (b : Nat) : Option Nat → AV
  | some k => .obj id (b + k)
  | none => .p (.sc (.pointer none))
set_option maxHeartbeats 1000000 in
theorem flag65 (id nx : Nat) (h : id < nx) (n : List UInt8) (cs : List PC) : GenC Tryd.prog 65 [.obj id 0, .p (.str n)] ⟨[(id, ⟨38, 11, cs.map AV.p⟩)], [], nx⟩ (ptrO id 0 (flagI n)) ⟨[(id, ⟨38, 11, cs.map AV.p⟩)], [], nx⟩ := by
  refine gen_of_aw (rs := [_]) [] [] [] mixed Tryd.func65 rfl (by kernel_rfl) (by kernel_rfl) (by simp [Tryd.ntmps65]) rfl ?_
  unfold flagI
  have e : ∀ m : List UInt8, n ≠ m → (n == m) = false := fun m hm => by simpa using hm
  by_cases h0 : n = nm0
  · subst h0; simp [nm0, ptrO, Tryd.results65]; exact ⟨[], by simp [h]⟩
  have e0 := e _ h0; unfold nm0 at e0
  by_cases h1 : n = nm1
  · subst h1; simp [nm0, nm1, ptrO, Tryd.results65]; exact ⟨[], by simp [h]⟩
  have e1 := e _ h1; unfold nm1 at e1
  by_cases h2 : n = nm2
  · subst h2; simp [nm0, nm1, nm2, ptrO, Tryd.results65]; exact ⟨[], by simp [h]⟩
  have e2 := e _ h2; unfold nm2 at e2
  by_cases h3 : n = nm3
  · subst h3; simp [nm0, nm1, nm2, nm3, ptrO, Tryd.results65]; exact ⟨[], by simp [h]⟩
  have e3 := e _ h3; unfold nm3 at e3
  by_cases h4 : n = nm4
  · subst h4; simp [nm0, nm1, nm2, nm3, nm4, ptrO, Tryd.results65]; exact ⟨[], by simp [h]⟩
  have e4 := e _ h4; unfold nm4 at e4
  by_cases h5 : n = nm5
  · subst h5; simp [nm0, nm1, nm2, nm3, nm4, nm5, ptrO, Tryd.results65]; exact ⟨[], by simp [h]⟩
  have e5 := e _ h5; unfold nm5 at e5
  by_cases h6 : n = nm6
  · subst h6; simp [nm0, nm1, nm2, nm3, nm4, nm5, nm6, ptrO, Tryd.results65]; exact ⟨[], by simp [h]⟩
  have e6 := e _ h6; unfold nm6 at e6
  simp [h0, h1, h2, h3, h4, h5, h6, e0, e1, e2, e3, e4, e5, e6, ptrO, Tryd.results65]
  exact ⟨[], by simp [h]⟩
set_option maxHeartbeats 1000000 in
theorem count66 (id nx : Nat) (h : id < nx) (n : List UInt8) (cs : List PC) : GenC Tryd.prog 66 [.obj id 0, .p (.str n)] ⟨[(id, ⟨38, 11, cs.map AV.p⟩)], [], nx⟩ (ptrO id 7 (cntI n)) ⟨[(id, ⟨38, 11, cs.map AV.p⟩)], [], nx⟩ := by
  refine gen_of_aw (rs := [_]) [] [] [] mixed Tryd.func66 rfl (by kernel_rfl) (by kernel_rfl) (by simp [Tryd.ntmps66]) rfl ?_
  unfold cntI
  have e : ∀ m : List UInt8, n ≠ m → (n == m) = false := fun m hm => by simpa using hm
  by_cases h0 : n = nm7
  · subst h0; simp [nm7, ptrO, Tryd.results66]; exact ⟨[], by simp [h]⟩
  have e0 := e _ h0; unfold nm7 at e0
  by_cases h1 : n = nm8
  · subst h1; simp [nm7, nm8, ptrO, Tryd.results66]; exact ⟨[], by simp [h]⟩
  have e1 := e _ h1; unfold nm8 at e1
  by_cases h2 : n = nm9
  · subst h2; simp [nm7, nm8, nm9, ptrO, Tryd.results66]; exact ⟨[], by simp [h]⟩
  have e2 := e _ h2; unfold nm9 at e2
  by_cases h3 : n = nm10
  · subst h3; simp [nm7, nm8, nm9, nm10, ptrO, Tryd.results66]; exact ⟨[], by simp [h]⟩
  have e3 := e _ h3; unfold nm10 at e3
  simp [h0, h1, h2, h3, e0, e1, e2, e3, ptrO, Tryd.results66]
  exact ⟨[], by simp [h]⟩
/-- what directives say: seven flags, four numbers -/
abbrev Ctl := List Bool × List Int
def ctl0 : Ctl := (List.replicate 7 false, List.replicate 4 (-1))
def ctlL (c : Ctl) : List PC := c.1.map PC.bool ++ c.2.map PC.int
theorem none28 : PureC Tryd.prog 28 [] (.agg false (ctlL ctl0)) := by
  refine pure_of_aw (ys := [_]) [] [] [] mixed Tryd.func28 rfl (by kernel_rfl) (by kernel_rfl) (by simp [Tryd.ntmps28]) rfl ?_
  simp [Tryd.results28, ctlL, ctl0]
end Go.Av

/-! part Q60 -/
namespace Go.Av
open Go.Proofs

theorem tokB_low (c : UInt8) : tokB (lowO c) = tokB c := by
  have := all256 (p := fun c => tokB (lowO c) == tokB c) (by kernel_rfl) c
  simpa using this
theorem tkB_low (l : List UInt8) : tkB (lowB l) = tkB l := by
  unfold tkB lowB
  rw [List.all_map]
  have e : (l.all (tokB ∘ lowO)) = l.all tokB := by
    congr 1; funext c; exact tokB_low c
  rw [e]
  cases l <;> simp
/-- the document's reading of a directive: its name, its number, whether it says anything -/
def rdirB (l : List UInt8) : List UInt8 × Int × Bool :=
  let d := readB l
  if d.2.2.2 = true then (d.1, numD d.2.1 d.2.2.1 (if d.1 = nm9 then 2147483647 else 0), true) else ([], 0, false)
theorem unqG_len : ∀ (n : Nat) (l b : List UInt8) (k : Nat), l.length ≤ n → (unqG b k l).1.length ≤ b.length + l.length := by
  intro n
  induction n with
  | zero => intro l b k h; obtain rfl : l = [] := List.length_eq_zero_iff.1 (by omega); simp [unqG, unqE]
  | succ n ih =>
    intro l b k h
    cases l with
    | nil => simp [unqG, unqE]
    | cons c l =>
      rw [unqG_cons]
      simp only [List.length_cons] at h ⊢
      split
      · simp
      · split
        · split
          · simp [unqE]
          · split
            · refine Nat.le_trans (ih _ _ _ (by simp; omega)) (by simp; rename_i h0 _; cases l with | nil => simp at h0 | cons => simp; omega)
            · simp [unqE]
        · split
          · exact Nat.le_trans (ih _ _ _ (by omega)) (by simp; omega)
          · simp [unqE]
theorem unqB_len (l : List UInt8) : (unqB l).1.length ≤ l.length := by
  cases l with
  | nil => simp [unqB, unqE]
  | cons c l =>
    simp only [unqB]
    split
    · exact Nat.le_trans (unqG_len _ _ _ _ (Nat.le_refl _)) (by simp)
    · simp [unqE]
set_option maxHeartbeats 2000000 in
set_option maxRecDepth 100000 in
theorem rdirective68 (l : List UInt8) (hl : l.length ≤ 1000000) : PureC Tryd.prog 68 [.str l] (.tp [.str (rdirB l).1, .int (rdirB l).2.1, .bool (rdirB l).2.2]) := by
  refine pure_of_aw (ys := [_, _, _]) [] [] [] mixed Tryd.func68 rfl (by kernel_rfl) (by kernel_rfl) (by simp [Tryd.ntmps68]) rfl ?_
  obtain ⟨R, hR⟩ : ∃ R, R = rdirB l := ⟨_, rfl⟩
  rw [← hR]
  unfold rdirB readB at hR
  have hc := cutB_len l 61
  have hm : ((MD : Nat) : Int) = 2147483647 := rfl
  simp
  refine aw_loop0 (fun k : Nat => k ≤ l.length ∧ ∀ c ∈ l.take k, c ≠ 61) (fun k => [(0, .p (.str l)), (5, .p (.int k))]) (fun k => l.length - k) 0 (by simp) (leN_id (by simp)) ?_
  rintro k ⟨h1, h2⟩
  have main : ∀ (n a : List UInt8) (has : Bool), cutB l 61 = (n, a, has) → True := fun _ _ _ _ => trivial
  by_cases c : k < l.length
  · by_cases a1 : l[k] = 61
    · have e : ixB l 61 = k := ixB_eq c h2 a1
      have e2 : cutB l 61 = (l.take k, l.drop (k + 1), true) := by unfold cutB; rw [e, if_neg (by omega)]; simp
      rw [e2] at hR hc
      simp only at hR hc
      obtain ⟨n, hn⟩ : ∃ n, n = l.take k := ⟨_, rfl⟩
      obtain ⟨a, ha⟩ : ∃ a, a = l.drop (k + 1) := ⟨_, rfl⟩
      rw [← hn, ← ha] at hR hc
      have ci : k ≤ l.length := by omega
      have w1 := wrap64_id (n := (k : Int) + 1) (by omega) (by omega)
      have t1 : ((k : Int) + 1).toNat = k + 1 := by omega
      have p1 : (0 : Int) ≤ (k : Int) + 1 := by omega
      have q1 : k + 1 ≤ l.length := by omega
      have z1 : ((k : Int) == (l.length : Int)) = false := by simp; omega
      simp [c, a1, ci, ← hn]
      refine pcall_of (rlower32 n (by omega)) (by simp) ?_
      simp
      refine pcall_of (rtoken31 tchar70 (lowB n) (by simp [lowB]; omega)) (by simp) ?_
      rw [tkB_low]
      cases h1 : tkB n with
      | false =>
        simp only [h1, if_true, Bool.false_eq_true, if_false] at hR
        subst hR
        simp [Tryd.results68]
      | true =>
      simp only [h1, Bool.true_eq_false, if_false, false_or] at hR
      simp [z1, w1, t1, p1, q1, ← ha]
      refine pcall_of (rtoken31 tchar70 a (by omega)) (by simp) ?_
      cases h2 : tkB a with
      | true =>
        simp only [h2, if_true] at hR
        have hn := rnumber30 a MD (by omega) (by decide) (by decide)
        rw [hm] at hn
        simp only [numD, Bool.true_eq_false, if_false] at hR
        generalize numB MD a = q at *
        obtain ⟨v, e⟩ := q
        simp only at hn hR
        simp
        refine pcall_of hn (by simp) ?_
        by_cases ce : e = 12
        · rw [if_pos ce] at hR; subst hR; subst ce; simp [Tryd.results68]
        · rw [if_neg ce] at hR; subst hR
          have d : (e == 12) = false := by simpa using ce
          simp [ce, d, Tryd.results68]
      | false =>
      simp only [h2, Bool.false_eq_true, if_false] at hR
      simp
      refine pcall_of (runquote102 a (by omega)) (by simp) ?_
      have hul : (unqB a).1.length ≤ 1000000 := Nat.le_trans (unqB_len a) (by omega)
      generalize unqB a = u at *
      obtain ⟨t, m, e⟩ := u
      simp only at hR hul ⊢
      by_cases ce : e = 0
      case neg =>
        have d : (e != 0) = true := by simpa using ce
        rw [if_neg (by simp [ce])] at hR
        subst hR
        simp [ce, d, Tryd.results68]
      subst ce
      by_cases cm : m = (a.length : Int)
      case neg =>
        have d : (m != (a.length : Int)) = true := by simpa using cm
        rw [if_neg (by simp [cm])] at hR
        subst hR
        simp [cm, d, Tryd.results68]
      subst cm
      rw [if_pos (by simp)] at hR
      have hn := rnumber30 t MD (by omega) (by decide) (by decide)
      rw [hm] at hn
      simp only [numD, Bool.true_eq_false, if_false] at hR
      generalize numB MD t = q at *
      obtain ⟨v, e⟩ := q
      simp only at hn hR
      simp
      refine pcall_of hn (by simp) ?_
      by_cases ce : e = 12
      · rw [if_pos ce] at hR; subst hR; subst ce; simp [Tryd.results68]
      · rw [if_neg ce] at hR; subst hR
        have d : (e == 12) = false := by simpa using ce
        simp [ce, d, Tryd.results68]
    · have n1 : ((l[k].toNat : Int) != 61) = true := by
        simp; intro e; apply a1; apply UInt8.toNat_inj.1; exact Int.ofNat_inj.1 e
      simp [c, a1, n1]
      refine ⟨k + 1, ⟨by omega, ?_⟩, by omega, leN_id ?_⟩
      · intro x hx
        rw [List.take_succ_eq_append_getElem c] at hx
        rcases List.mem_append.1 hx with hx | hx
        · exact h2 x hx
        · simp at hx; subst hx; exact a1
      · simp [wrap64_id (n := (k : Int) + 1) (by omega) (by omega)]
  · obtain rfl : k = l.length := by omega
    rw [List.take_length] at h2
    have e : ixB l 61 = -1 := ixB_none h2
    have e2 : cutB l 61 = (l, [], false) := by unfold cutB; rw [e, if_pos (by omega)]
    rw [e2] at hR
    simp only at hR
    simp
    refine pcall_of (rlower32 l hl) (by simp) ?_
    simp
    refine pcall_of (rtoken31 tchar70 (lowB l) (by simp [lowB]; omega)) (by simp) ?_
    rw [tkB_low]
    cases h1 : tkB l with
    | false =>
      simp only [h1, if_true, Bool.false_eq_true, if_false] at hR
      subst hR
      simp [Tryd.results68]
    | true =>
    simp only [h1, Bool.true_eq_false, if_false, true_or, if_true, numD] at hR
    by_cases c9 : lowB l = nm9
    · rw [if_pos c9] at hR
      have d9 : (lowB l == [109, 97, 120, 45, 115, 116, 97, 108, 101]) = true := by rw [c9]; rfl
      subst hR
      simp [d9, Tryd.results68]
    · rw [if_neg c9] at hR
      have d9 : (lowB l == [109, 97, 120, 45, 115, 116, 97, 108, 101]) = false := by rw [beq_eq_false_iff_ne]; exact c9
      subst hR
      simp [d9, Tryd.results68]
end Go.Av
