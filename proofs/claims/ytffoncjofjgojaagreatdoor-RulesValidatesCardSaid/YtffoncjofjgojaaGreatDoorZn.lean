/- By which fields is asked, which answers confirm, whether nothing has changed. -/
import Derived.Test.YtffoncjofjgojaaGreatDoorZm
set_option linter.all false
/-! part Z135 -/
namespace Go.Av
open Go.Proofs
set_option maxRecDepth 100000
theorem prefix143_2 (l : List UInt8) (c d : UInt8) : PureC Tryz.prog 143 [.str l, .str [c, d]] (.bool (decide (l.take 2 = [c, d]))) := by
  refine pure_of_aw (ys := [_]) [] [] [] mixed Tryz.func143 rfl (by kernel_rfl) (by kernel_rfl) (by simp [Tryz.ntmps143]) rfl ?_
  match l with
  | [] => simp [Tryz.results143]
  | [a] => simp [Tryz.results143]
  | a :: b :: l =>
    have dd : (2 : Int) ≤ (l.length : Int) + 1 + 1 := by omega
    simp [dd, Tryz.results143]
    by_cases e1 : a = c <;> by_cases e2 : b = d <;> simp [e1, e2]
def bareB (s : List UInt8) : List UInt8 := if s.take 2 = [87, 47] then s.drop 2 else s
theorem trimp150 (s : List UInt8) : PureC Tryz.prog 150 [.str s, .str [87, 47]] (.str (bareB s)) := by
  refine pure_of_aw (ys := [_]) [] [] [] mixed Tryz.func150 rfl (by kernel_rfl) (by kernel_rfl) (by simp [Tryz.ntmps150]) rfl ?_
  simp
  refine pcall_of (prefix143_2 s 87 47) (by simp) ?_
  unfold bareB
  by_cases h : s.take 2 = [87, 47]
  · have hl : 2 ≤ s.length := by
      have := congrArg List.length h
      simp at this; omega
    simp [h, hl, Tryz.results150]
  · simp [h, Tryz.results150]
theorem trimp116 (s : List UInt8) : PureC Tryz.prog 116 [.str s, .str [87, 47]] (.str (bareB s)) := by
  refine pure_of_aw (ys := [_]) [] [] [] mixed Tryz.func116 rfl (by kernel_rfl) (by kernel_rfl) (by simp [Tryz.ntmps116]) rfl ?_
  simp
  refine pcall_of (trimp150 s) (by simp) ?_
  simp [Tryz.results116]
def alikB (a b : List UInt8) : Bool := decide (bareB a = bareB b)
theorem alike75 (a b : List UInt8) : PureC Tryz.prog 75 [.str a, .str b] (.bool (alikB a b)) := by
  refine pure_of_aw (ys := [_]) [] [] [] mixed Tryz.func75 rfl (by kernel_rfl) (by kernel_rfl) (by simp [Tryz.ntmps75]) rfl ?_
  simp
  refine pcall_of (trimp116 a) (by simp) ?_
  simp
  refine pcall_of (trimp116 b) (by simp) ?_
  unfold alikB
  by_cases h : bareB a = bareB b <;> simp [h, Tryz.results75]
theorem moment76 (D : List UInt8 → Int × Int) (x : Msg) (n : List UInt8) (hf : FdOk x.fs) (hn : n.length ≤ 1000000) (hD : DFor D x.fs n) : PureC Tryz.prog 76 [msP x, .str n] (.tp [.int (momB D x.fs n).1, .bool (momB D x.fs n).2]) := by
  refine pure_of_aw (ys := [_, _]) [] [] [] mixed Tryz.func76 rfl (by kernel_rfl) (by kernel_rfl) (by simp [Tryz.ntmps76]) rfl ?_
  simp
  refine pcall_of (one70 x.fs n hf hn) (by simp) ?_
  unfold momB
  unfold DFor at hD
  generalize oneB x.fs n = q at *
  obtain ⟨v, ok⟩ := q
  cases ok with
  | false => simp [Tryz.results76]
  | true =>
    simp
    refine pcall_of (hD rfl) (by simp) ?_
    simp [Tryz.results76]
def tagN : List UInt8 := [101, 116, 97, 103]
def inmH : List UInt8 := [73, 102, 45, 78, 111, 110, 101, 45, 77, 97, 116, 99, 104]
def imsH : List UInt8 := [73, 102, 45, 77, 111, 100, 105, 102, 105, 101, 100, 45, 83, 105, 110, 99, 101]
def condF (D : List UInt8 → Int × Int) (fs : List Fd) : List Fd := (if (oneB fs tagN).2 = true then [(inmH, (oneB fs tagN).1)] else []) ++ (if (momB D fs lamN).2 = true then [(imsH, (oneB fs lamN).1)] else [])
theorem Condition42 (D : List UInt8 → Int × Int) (x : Msg) (hf : FdOk x.fs) (hD : DFor D x.fs lamN) : PureC Tryz.prog 42 [msP x] (.sl ((condF D x.fs).map fdP)) := by
  have h1 := one70 x.fs tagN hf (by decide)
  have h2 := one70 x.fs lamN hf (by decide)
  have h3 := moment76 D x lamN hf (by decide) hD
  refine pure_of_aw (ys := [_]) [] [] [] mixed Tryz.func42 rfl (by kernel_rfl) (by kernel_rfl) (by simp [Tryz.ntmps42]) rfl ?_
  unfold condF
  generalize oneB x.fs tagN = p at *
  generalize oneB x.fs lamN = q at *
  generalize momB D x.fs lamN = r at *
  obtain ⟨p1, p2⟩ := p
  obtain ⟨q1, q2⟩ := q
  obtain ⟨r1, r2⟩ := r
  simp
  refine pcall_of h1 (by simp [tagN]) ?_
  cases p2 <;> simp
  all_goals
    refine pcall_of h3 (by simp [lamN]) ?_
    cases r2 <;> simp [inmH, imsH, Tryz.results42]
  all_goals
    refine pcall_of h2 (by simp [lamN]) ?_
    simp [inmH, imsH, Tryz.results42]
def confB (k r : Msg) : Bool :=
  if r.st ≠ 304 then false else
  if (oneB r.fs tagN).2 = true then (oneB k.fs tagN).2 && alikB (oneB r.fs tagN).1 (oneB k.fs tagN).1 else
  if (oneB r.fs lamN).2 = true then (oneB k.fs lamN).2 && decide ((oneB r.fs lamN).1 = (oneB k.fs lamN).1) else true
set_option maxHeartbeats 2000000 in
theorem Confirms44 (k r : Msg) (hk : FdOk k.fs) (hr : FdOk r.fs) : PureC Tryz.prog 44 [msP k, msP r] (.bool (confB k r)) := by
  have h1 := one70 k.fs tagN hk (by decide)
  have h2 := one70 r.fs tagN hr (by decide)
  have h3 := one70 k.fs lamN hk (by decide)
  have h4 := one70 r.fs lamN hr (by decide)
  have h5 := alike75 (oneB r.fs tagN).1 (oneB k.fs tagN).1
  refine pure_of_aw (ys := [_]) [] [] [] mixed Tryz.func44 rfl (by kernel_rfl) (by kernel_rfl) (by simp [Tryz.ntmps44]) rfl ?_
  unfold confB
  by_cases hs : r.st = 304
  case neg =>
    have d : (r.st != 304) = true := by simpa using hs
    simp [d, hs, Tryz.results44]
  have d : (r.st != 304) = false := by simpa using hs
  generalize oneB k.fs tagN = p1 at *
  generalize oneB r.fs tagN = p2 at *
  generalize oneB k.fs lamN = p3 at *
  generalize oneB r.fs lamN = p4 at *
  obtain ⟨p1, b1⟩ := p1
  obtain ⟨p2, b2⟩ := p2
  obtain ⟨p3, b3⟩ := p3
  obtain ⟨p4, b4⟩ := p4
  simp [d]
  refine pcall_of h1 (by simp [tagN]) ?_
  simp
  refine pcall_of h2 (by simp [tagN]) ?_
  cases b2 with
  | true =>
    cases b1 with
    | false => simp [hs, Tryz.results44]
    | true =>
      simp
      refine pcall_of h5 (by simp) ?_
      simp [hs, Tryz.results44]
  | false =>
    simp
    refine pcall_of h3 (by simp [lamN]) ?_
    simp
    refine pcall_of h4 (by simp [lamN]) ?_
    cases b4 with
    | false => simp [hs, Tryz.results44]
    | true =>
      cases b3 with
      | false => simp [hs, Tryz.results44]
      | true =>
        by_cases e : p4 = p3 <;> simp [hs, e, Tryz.results44]
end Go.Av

/-! part Z136 -/
namespace Go.Av
open Go.Proofs
set_option maxRecDepth 100000
end Go.Av

/-! part Z137 -/
namespace Go.Av
open Go.Proofs
set_option maxRecDepth 100000
theorem rone47 (x : Msg) (n : List UInt8) (hf : FdOk x.fs) (hn : n.length ≤ 1000000) : PureC Tryz.prog 47 [msP x, .str n] (.tp [.str (oneB x.fs n).1, .bool (oneB x.fs n).2]) := by
  have hl := getB_len x.fs n
  have h1 := hf.1
  refine pure_of_aw (ys := [_, _]) [] [] [] mixed Tryz.func47 rfl (by kernel_rfl) (by kernel_rfl) (by simp [Tryz.ntmps47]) rfl ?_
  simp
  refine pcall_of (rget108 x.fs n hf hn) (by simp) ?_
  unfold oneB
  generalize getB x.fs n = L at *
  match L, hl with
  | [], _ => simp [Tryz.results47]
  | [v], _ => simp [Tryz.results47]
  | a :: b :: L, hl =>
    have c : ((L.length : Int) + 1 + 1 == 1) = false := by simp; omega
    simp [c, Tryz.results47]
end Go.Av

/-! part Z138 -/
namespace Go.Av
open Go.Proofs
set_option maxRecDepth 100000
end Go.Av

/-! part Z139 -/
namespace Go.Av
open Go.Proofs
end Go.Av
