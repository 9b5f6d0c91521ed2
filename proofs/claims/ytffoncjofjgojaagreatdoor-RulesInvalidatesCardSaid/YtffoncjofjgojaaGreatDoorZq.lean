/- The document's readings of a response and its rules; RulesStores and RulesValidates compute true. -/
import Derived.Test.YtffoncjofjgojaaGreatDoorZp
set_option linter.all false
/-! part Z164 -/
namespace Go.Av
open Go.Proofs
set_option maxRecDepth 100000
theorem rpd118 (s : List UInt8) (hs : s.length ≤ 100000) : PureC Tryz.prog 118 [.str s] (.tp [.int (parseD s).1, .int (parseD s).2]) := by
  have h := rparse118 s hs
  rw [parse_eq] at h
  exact h
theorem rmoment78 (x : Msg) (n : List UInt8) (hf : FdOk x.fs) (hn : n.length ≤ 1000000) (hl : (oneB x.fs n).1.length ≤ 100000) : PureC Tryz.prog 78 [msP x, .str n] (.tp [.int (momB parseD x.fs n).1, .bool (momB parseD x.fs n).2]) := by
  have hgl := getB_len x.fs n
  have h1 := hf.1
  refine pure_of_aw (ys := [_, _]) [] [] [] mixed Tryz.func78 rfl (by kernel_rfl) (by kernel_rfl) (by simp [Tryz.ntmps78]) rfl ?_
  simp
  refine pcall_of (rget108 x.fs n hf hn) (by simp) ?_
  unfold momB
  unfold oneB at *
  generalize getB x.fs n = L at *
  match L, hgl with
  | [], _ => simp [Tryz.results78]
  | [v], _ =>
    simp
    refine pcall_of (rpd118 v hl) (by simp) ?_
    simp [Tryz.results78]
  | a :: b :: L, hgl =>
    have c : ((L.length : Int) + 1 + 1 != 1) = true := by simp; omega
    simp [c, Tryz.results78]
end Go.Av

/-! part Z165 -/
namespace Go.Av
open Go.Proofs
set_option maxRecDepth 100000
end Go.Av

/-! part Z166 -/
namespace Go.Av
open Go.Proofs
set_option maxRecDepth 100000
end Go.Av

/-! part Z167 -/
namespace Go.Av
open Go.Proofs
set_option maxRecDepth 100000
theorem bare77 (s : List UInt8) : PureC Tryz.prog 77 [.str s] (.str (bareB s)) := by
  refine pure_of_aw (ys := [_]) [] [] [] mixed Tryz.func77 rfl (by kernel_rfl) (by kernel_rfl) (by simp [Tryz.ntmps77]) rfl ?_
  unfold bareB
  match s with
  | [] => simp [Tryz.results77]
  | [a] => simp [Tryz.results77]
  | a :: b :: l =>
    have d1 : (2 : Int) ≤ (l.length : Int) + 1 + 1 := by omega
    cases e1 : (a == 87) <;> cases e2 : (b == 47)
    all_goals
      have f1 := e1
      have f2 := e2
      simp at f1 f2
      simp [d1, e1, e2, f1, f2, Tryz.results77]
end Go.Av

/-! part Z168 -/
namespace Go.Av
open Go.Proofs
set_option maxRecDepth 100000
end Go.Av

/-! part Z169 -/
namespace Go.Av
open Go.Proofs
end Go.Av
