/- By which fields is asked, which answers confirm, whether nothing has changed. -/
import Derived.Test.YtffoncjofjgojaaGreatDoorZm
set_option linter.all false
/-! part Z135 -/
namespace Go.Av
open Go.Proofs
set_option maxRecDepth 100000
theorem prefix143_2 (l : List UInt8) (c d : UInt8) : PureC Tryz.prog 143 [.str l, .str [c, d]] (.bool (decide (l.take 2 = [c, d]))) := by
  refine pure_of_aw (ys := [_]) [] [] [] mixed Tryz.func143 rfl (by kernel_rfl) (by kernel_rfl) (by simp [Tryz.ntmps143]) rfl ?_
  match l with
  | [] => simp [Tryz.results143]
  | [a] => simp [Tryz.results143]
  | a :: b :: l =>
    have dd : (2 : Int) ≤ (l.length : Int) + 1 + 1 := by omega
    simp [dd, Tryz.results143]
    by_cases e1 : a = c <;> by_cases e2 : b = d <;> simp [e1, e2]
def bareB (s : List UInt8) : List UInt8 := if s.take 2 = [87, 47] then s.drop 2 else s
theorem trimp150 (s : List UInt8) : PureC Tryz.prog 150 [.str s, .str [87, 47]] (.str (bareB s)) := by
  refine pure_of_aw (ys := [_]) [] [] [] mixed Tryz.func150 rfl (by kernel_rfl) (by kernel_rfl) (by simp [Tryz.ntmps150]) rfl ?_
  simp
  refine pcall_of (prefix143_2 s 87 47) (by simp) ?_
  unfold bareB
  by_cases h : s.take 2 = [87, 47]
  · have hl : 2 ≤ s.length := by
      have := congrArg List.length h
      simp at this; omega
    simp [h, hl, Tryz.results150]
  · simp [h, Tryz.results150]
theorem trimp116 (s : List UInt8) : PureC Tryz.prog 116 [.str s, .str [87, 47]] (.str (bareB s)) := by
  refine pure_of_aw (ys := [_]) [] [] [] mixed Tryz.func116 rfl (by kernel_rfl) (by kernel_rfl) (by simp [Tryz.ntmps116]) rfl ?_
  simp
  refine pcall_of (trimp150 s) (by simp) ?_
  simp [Tryz.results116]
def alikB (a b : List UInt8) : Bool := decide (bareB a = bareB b)
theorem alike75 (a b : List UInt8) : PureC Tryz.prog 75 [.str a, .str b] (.bool (alikB a b)) := by
  refine pure_of_aw (ys := [_]) [] [] [] mixed Tryz.func75 rfl (by kernel_rfl) (by kernel_rfl) (by simp [Tryz.ntmps75]) rfl ?_
  simp
  refine pcall_of (trimp116 a) (by simp) ?_
  simp
  refine pcall_of (trimp116 b) (by simp) ?_
  unfold alikB
  by_cases h : bareB a = bareB b <;> simp [h, Tryz.results75]
theorem moment76 (D : List UInt8 → Int × Int) (x : Msg) (n : List UInt8) (hf : FdOk x.fs) (hn : n.length ≤ 1000000) (hD : DFor D x.fs n) : PureC Tryz.prog 76 [msP x, .str n] (.tp [.int (momB D x.fs n).1, .bool (momB D x.fs n).2]) := by
  refine pure_of_aw (ys := [_, _]) [] [] [] mixed Tryz.func76 rfl (by kernel_rfl) (by kernel_rfl) (by simp [Tryz.ntmps76]) rfl ?_
  simp
  refine pcall_of (one70 x.fs n hf hn) (by simp) ?_
  unfold momB
  unfold DFor at hD
  generalize oneB x.fs n = q at *
  obtain ⟨v, ok⟩ := q
  cases ok with
  | false => simp [Tryz.results76]
  | true =>
    simp
    refine pcall_of (hD rfl) (by simp) ?_
    simp [Tryz.results76]
def tagN : List UInt8 := [101, 116, 97, 103]
end Go.Av

/-! part Z136 -/
namespace Go.Av
open Go.Proofs
set_option maxRecDepth 100000
def sameP (ok : Bool) (tag s : List UInt8) : Bool := decide (s = [42]) || (ok && alikB s tag)
theorem unch74 (ok : Bool) (tag s : List UInt8) : PureC Tryz.prog 74 [.str s, .ref (.bool ok), .ref (.str tag)] (.bool (sameP ok tag s)) := by
  have h := alike75 s tag
  refine pure_of_aw (ys := [_]) [] [] [] mixed Tryz.func74 rfl (by kernel_rfl) (by kernel_rfl) (by simp [Tryz.ntmps74]) rfl ?_
  unfold sameP
  generalize alikB s tag = B at *
  by_cases e : s = [42]
  · subst e
    simp [Tryz.results74]
  · have d : (s == [42]) = false := by simpa using e
    simp [d]
    cases ok with
    | false => simp [e, Tryz.results74]
    | true =>
      simp
      refine pcall_of h (by simp) ?_
      simp [e, Tryz.results74]
def inmN : List UInt8 := [105, 102, 45, 110, 111, 110, 101, 45, 109, 97, 116, 99, 104]
def imsN : List UInt8 := [105, 102, 45, 109, 111, 100, 105, 102, 105, 101, 100, 45, 115, 105, 110, 99, 101]
def unchB (D : List UInt8 → Int × Int) (q k : Msg) : Bool :=
  if k.st ≠ 200 then false else
  if getB q.fs inmN ≠ [] then (splitB (getB q.fs inmN)).any (sameP (oneB k.fs tagN).2 (oneB k.fs tagN).1)
  else (momB D q.fs imsN).2 && (momB D k.fs lamN).2 && decide ((momB D k.fs lamN).1 ≤ (momB D q.fs imsN).1)
end Go.Av

/-! part Z137 -/
namespace Go.Av
open Go.Proofs
set_option maxRecDepth 100000
theorem rone47 (x : Msg) (n : List UInt8) (hf : FdOk x.fs) (hn : n.length ≤ 1000000) : PureC Tryz.prog 47 [msP x, .str n] (.tp [.str (oneB x.fs n).1, .bool (oneB x.fs n).2]) := by
  have hl := getB_len x.fs n
  have h1 := hf.1
  refine pure_of_aw (ys := [_, _]) [] [] [] mixed Tryz.func47 rfl (by kernel_rfl) (by kernel_rfl) (by simp [Tryz.ntmps47]) rfl ?_
  simp
  refine pcall_of (rget108 x.fs n hf hn) (by simp) ?_
  unfold oneB
  generalize getB x.fs n = L at *
  match L, hl with
  | [], _ => simp [Tryz.results47]
  | [v], _ => simp [Tryz.results47]
  | a :: b :: L, hl =>
    have c : ((L.length : Int) + 1 + 1 == 1) = false := by simp; omega
    simp [c, Tryz.results47]
end Go.Av

/-! part Z138 -/
namespace Go.Av
open Go.Proofs
set_option maxRecDepth 100000
end Go.Av

/-! part Z139 -/
namespace Go.Av
open Go.Proofs
end Go.Av
