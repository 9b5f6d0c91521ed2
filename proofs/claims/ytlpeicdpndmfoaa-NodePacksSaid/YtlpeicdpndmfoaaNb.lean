/- What Find, Child and Split compute, and how a node is read. -/
import Derived.Test.YtlpeicdpndmfoaaNa
set_option linter.all false
/-! part N17g -/
namespace Go.Av
open Go.Proofs

/-- where the first is that q takes, or -1 -/
def idxF (q : List UInt8 → Bool) (ks : List (List UInt8)) : Int := if below (fun s => !q s) ks < ks.length then (below (fun s => !q s) ks : Nat) else -1

theorem index55 {g : FuncId} {caps : List PC} (q : List UInt8 → Bool) (ks : List (List UInt8)) (hk : ks.length ≤ 9223372036854775807) (h : ∀ s ∈ ks, PureC Try.prog g (.str s :: caps) (.bool (q s))) :
    PureC Try.prog 55 [.sl (ks.map PC.str), .fn (.func g) caps] (.int (idxF q ks)) := by
  refine pure_of_aw (ys := [_]) [] [] [] mixed Try.func55 rfl (by kernel_rfl) (by kernel_rfl) (by simp [Try.ntmps55]) rfl ?_
  simp
  refine aw_loop0 (fun k : Nat => k ≤ ks.length ∧ ∀ x ∈ ks.take k, (!q x) = true) (fun k => [(0, .p (.sl (ks.map PC.str))), (1, .p (.fn (.func g) caps)), (7, .p (.int ks.length)), (8, .p (.int k))]) (fun k => ks.length - k) 0 (by simp) (leN_id (by simp)) ?_
  rintro k ⟨h1, h2⟩
  by_cases c1 : k < ks.length
  · simp [c1]
    refine pcall_of (h ks[k] (by simp)) (by simp) ?_
    by_cases c2 : q ks[k] = true
    · have e := below_of h2 h1 (fun _ => by simpa using c2)
      simp [c2, idxF, e, c1, Try.results55]
    · simp [c2]
      refine ⟨k + 1, ⟨by omega, ?_⟩, by omega, leN_id ?_⟩
      · rw [List.take_succ_eq_append_getElem c1]; simp only [List.mem_append, List.mem_singleton]; rintro x (hx | rfl); (have := h2 x hx; simpa using this); simpa using c2
      · simp [wrap64_id (n := (k : Int) + 1) (by omega) (by omega)]
  · have e := below_of h2 h1 (fun h => absurd h c1)
    simp [e, c1, idxF, Try.results55]

theorem less_tri : ∀ (a b : List UInt8), Op.bytesLess b a = (!Op.bytesLess a b && !a == b)
  | [], [] => rfl
  | [], _ :: _ => rfl
  | _ :: _, [] => rfl
  | x :: a, y :: b => by
    have ih := less_tri a b
    rcases Nat.lt_trichotomy x.toNat y.toNat with h | h | h
    · have h1 : x < y := h
      have h2 : ¬ y < x := fun k => by have : y.toNat < x.toNat := k; omega
      have h3 : (y == x) = false := by simp; intro e; subst e; omega
      simp [Op.bytesLess, h1, h2, h3]
    · have h1 : x = y := UInt8.toNat_inj.mp h
      subst h1
      have h2 : ¬ x < x := fun k => by have : x.toNat < x.toNat := k; omega
      simp [Op.bytesLess, h2, ih]
    · have h1 : y < x := h
      have h2 : ¬ x < y := fun k => by have : x.toNat < y.toNat := k; omega
      have h3 : (x == y) = false := by simp; intro e; subst e; omega
      have h4 : x ≠ y := by intro e; subst e; omega
      simp [Op.bytesLess, h1, h2, h3, h4]
theorem find34 (s key : List UInt8) : PureC Try.prog 34 [.str s, .ref (.str key)] (.bool (Op.bytesLess s key)) := by
  refine pure_of_aw (ys := [_]) [] [] [] mixed Try.func34 rfl (by kernel_rfl) (by kernel_rfl) (by simp [Try.ntmps34]) rfl ?_
  simp [Try.results34]
theorem child35 (s key : List UInt8) : PureC Try.prog 35 [.str s, .ref (.str key)] (.bool (!Op.bytesLess key s)) := by
  refine pure_of_aw (ys := [_]) [] [] [] mixed Try.func35 rfl (by kernel_rfl) (by kernel_rfl) (by simp [Try.ntmps35]) rfl ?_
  simp [Try.results35, less_tri s key]
theorem below56 {g : FuncId} {caps : List PC} {s : List UInt8} {b : Bool} (h : PureC Try.prog g (.str s :: caps) (.bool b)) : PureC Try.prog 56 [.str s, .ref (.fn (.func g) caps)] (.bool (!b)) := by
  refine pure_of_aw (ys := [_]) [] [] [] mixed Try.func56 rfl (by kernel_rfl) (by kernel_rfl) (by simp [Try.ntmps56]) rfl ?_
  simp
  refine pcall_of h (by simp) ?_
  simp [Try.results56]
theorem below33 {g : FuncId} {caps : List PC} (p : List UInt8 → Bool) (l : Bool) (ks : List (List UInt8)) (vs : List Int) (hk : ks.length ≤ 9223372036854775807) (h : ∀ s ∈ ks, PureC Try.prog g (.str s :: caps) (.bool (p s))) :
    PureC Try.prog 33 [nodeP l ks vs, .fn (.func g) caps] (.int (below p ks)) := by
  refine pure_of_aw (ys := [_]) [] [] [] mixed Try.func33 rfl (by kernel_rfl) (by kernel_rfl) (by simp [Try.ntmps33]) rfl ?_
  simp
  refine pcall_of (index55 (fun s => !p s) ks hk fun s hs => below56 (h s hs)) (by simp) ?_
  have hb := below_le p ks
  by_cases c : below p ks < ks.length
  · simp [idxF, c, Try.results33]
  · have e : below p ks = ks.length := by omega
    simp [idxF, e, Try.results33]
/-- what Find answers -/
abbrev findR (ks : List (List UInt8)) (key : List UInt8) : PC := .tp [.int (below (fun s => Op.bytesLess s key) ks), .bool (ks[below (fun s => Op.bytesLess s key) ks]? == some key)]
theorem find11 (l : Bool) (ks : List (List UInt8)) (vs : List Int) (key : List UInt8) (hk : ks.length ≤ 9223372036854775807) :
    PureC Try.prog 11 [nodeP l ks vs, .str key] (findR ks key) := by
  refine pure_of_aw (ys := [_, _]) [] [] [] mixed Try.func11 rfl (by kernel_rfl) (by kernel_rfl) (by simp [Try.ntmps11]) rfl ?_
  simp
  refine pcall_of (below33 (fun s => Op.bytesLess s key) l ks vs hk fun s _ => find34 s key) (by simp) ?_
  have hb := below_le (fun s => Op.bytesLess s key) ks
  by_cases c : below (fun s => Op.bytesLess s key) ks < ks.length
  · simp [c, Try.results11]
  · have e : below (fun s => Op.bytesLess s key) ks = ks.length := by omega
    simp [e, Try.results11]
theorem child13 (l : Bool) (ks : List (List UInt8)) (vs : List Int) (key : List UInt8) (hk : ks.length ≤ 9223372036854775807) :
    PureC Try.prog 13 [nodeP l ks vs, .str key] (.int (below (fun s => !Op.bytesLess key s) ks)) := by
  refine pure_of_aw (ys := [_]) [] [] [] mixed Try.func13 rfl (by kernel_rfl) (by kernel_rfl) (by simp [Try.ntmps13]) rfl ?_
  simp
  refine pcall_of (below33 (fun s => !Op.bytesLess key s) l ks vs hk fun s _ => child35 s key) (by simp) ?_
  simp [Try.results13]
theorem rchild14 (l : Bool) (ks : List (List UInt8)) (vs : List Int) (key : List UInt8) (hn : ks.length ≤ 9223372036854775807) (hs : ∀ s ∈ ks, s.length ≤ 9223372036854775807) (hk : key.length ≤ 9223372036854775807) :
    PureC Try.prog 14 [nodeP l ks vs, .str key] (.int (below (fun s => !Op.bytesLess key s) ks)) := by
  refine pure_of_aw (ys := [_]) [] [] [] mixed Try.func14 rfl (by kernel_rfl) (by kernel_rfl) (by simp [Try.ntmps14]) rfl ?_
  simp
  refine aw_loop0 (fun k : Nat => k ≤ ks.length ∧ ∀ x ∈ ks.take k, (!Op.bytesLess key x) = true) (fun k => [(2, .p (.ref (nodeP l ks vs))), (1, .p (.str key)), (5, .p (.int k))]) (fun k => ks.length - k) 0 (by simp) (leN_id (by simp)) ?_
  rintro k ⟨h1, h2⟩
  by_cases c1 : k < ks.length
  · have hl := hs ks[k] (by simp)
    simp [c1]
    refine pcall_of (less_p _ _ hk hl) (by simp) ?_
    by_cases c2 : Op.bytesLess key ks[k] = true
    · have e := below_of h2 h1 (fun _ => by simpa using c2)
      simp [c2, e, c1, Try.results14]
    · simp [c2]
      refine ⟨k + 1, ⟨by omega, ?_⟩, by omega, leN_id ?_⟩
      · rw [List.take_succ_eq_append_getElem c1]; simp only [List.mem_append, List.mem_singleton]; rintro x (hx | rfl); (have := h2 x hx; simpa using this); simpa using c2
      · simp [wrap64_id (n := (k : Int) + 1) (by omega) (by omega)]
  · have e := below_of h2 h1 (fun h => absurd h c1)
    simp [e, c1, Try.results14]
end Go.Av

/-! part N17h -/
namespace Go.Av
open Go.Proofs

/-- the half of a node -/
def splitR (l : Bool) (ks : List (List UInt8)) (vs : List Int) : PC :=
  if fmd l ks vs && decide (2 ≤ ks.length) then
    .tp [nodeP l (ks.take (ks.length / 2)) (vs.take (ks.length / 2 + if l then 0 else 1)), .str (ks.getD (ks.length / 2) []),
      nodeP l (ks.drop (ks.length / 2 + if l then 0 else 1)) (vs.drop (ks.length / 2 + if l then 0 else 1))]
  else .tp [nodeP l ks vs, .str [], nodeP l [] []]

set_option maxHeartbeats 1000000 in
theorem split23 (l : Bool) (ks : List (List UInt8)) (vs : List Int) (hk : ks.length ≤ 1000000000) (hv : vs.length ≤ 1000000000) :
    PureC Try.prog 23 [nodeP l ks vs] (splitR l ks vs) := by
  have hc := fun l ks vs a b => copied36p l ks vs a b
  by_cases f0 : fmd l ks vs = true
  · by_cases f1 : 2 ≤ ks.length
    · have hlen : vs.length = ks.length + (if l then 0 else 1) := by simpa [fmd] using f0
      have e1 : ¬ (ks.length : Int) < 2 := by omega
      obtain ⟨h, hh⟩ : ∃ h, h = ks.length / 2 := ⟨_, rfl⟩
      have b1 : h < ks.length := by omega
      have b2 : (h : Int) ≤ ks.length := by omega
      have b3 : h ≤ ks.length := by omega
      have w0 : IntKind.i64.wrap ((ks.length : Int) / 2) = (h : Int) := by
        rw [wrap64_id (by omega) (by omega)]; omega
      simp only [splitR, f0, f1, decide_true, Bool.and_true, if_true, ← hh]
      refine pure_of_aw (ys := [_, _, _]) [] [(2, [(5, .s 1 []), (7, .s 2 [])]), (4, [(15, .w []), (16, .w [])]), (5, [(18, .w []), (19, .w [])]), (6, [(0, .r 3), (6, .r 4), (7, .s 1 [3,4]), (9, .s 2 [3,4])])] [(1, 0), (2, 1), (3, 2), (4, 3)] mixed Try.func23 rfl (by kernel_rfl) (by kernel_rfl) (by simp [Try.ntmps23]) rfl ?_
      simp
      refine pcall_of (formed37 l ks vs (by omega)) (by simp) ?_
      cases l
      · simp at hlen
        have w1 : IntKind.i64.wrap ((h : Int) + 1) = ((h + 1 : Nat) : Int) := by rw [wrap64_id (by omega) (by omega)]; rfl
        have b4 : (h : Int) + 1 ≤ vs.length := by omega
        have b5 : h + 1 ≤ vs.length := by omega
        have b6 : h + 1 ≤ ks.length := by omega
        have b7 : (h : Int) + 1 ≤ ks.length := by omega
        have b8 : (0 : Int) ≤ (h : Int) + 1 := by omega
        simp [f0, e1, w0, b2, b3]
        have c1 := hc false (ks.take h) (vs.take (h + 1)) (by simp; omega) (by simp; omega)
        have c2 := hc false (ks.drop (h + 1)) (vs.drop (h + 1)) (by simp; omega) (by simp; omega)
        simp only [nodeP, List.map_take, List.map_drop] at c1; simp only [nodeP, List.map_take, List.map_drop] at c2
        refine call_of (behind41 false ks vs) ?_
        simp [w1, b4, b5, b6, ↓b7, ↓b8]
        refine call_of c1 ?_
        simp
        refine call_of (behind41 false ks vs) ?_
        simp [w1, b4, b5, b6, ↓b7, ↓b8]
        refine call_of (behind41 false ks vs) ?_
        simp [w1, b4, b5, b6, ↓b7, ↓b8]
        refine call_of c2 ?_
        simp [b1, Try.results23]
      · simp at hlen
        have w1 : IntKind.i64.wrap (h : Int) = (h : Int) := wrap64_id (by omega) (by omega)
        have b4 : (h : Int) ≤ vs.length := by omega
        have b5 : h ≤ vs.length := by omega
        have b6 : h ≤ ks.length := by omega
        have b7 : (h : Int) ≤ ks.length := by omega
        simp [f0, e1, w0, b2, b3]
        have c1 := hc true (ks.take h) (vs.take (h)) (by simp; omega) (by simp; omega)
        have c2 := hc true (ks.drop (h)) (vs.drop (h)) (by simp; omega) (by simp; omega)
        simp only [nodeP, List.map_take, List.map_drop] at c1; simp only [nodeP, List.map_take, List.map_drop] at c2
        refine call_of (behind41 true ks vs) ?_
        simp [w1, b4, b5, b6, ↓b7]
        refine call_of c1 ?_
        simp
        refine call_of (behind41 true ks vs) ?_
        simp [w1, b4, b5, b6, ↓b7]
        refine call_of (behind41 true ks vs) ?_
        simp [w1, b4, b5, b6, ↓b7]
        refine call_of c2 ?_
        simp [b1, Try.results23]
    · have e1 : (ks.length : Int) < 2 := by omega
      simp only [splitR, f0, f1, decide_false, Bool.and_false]
      have c := hc l ks vs (by omega) (by omega)
      refine pure_of_aw (ys := [_, _, _]) [] [(2, [(5, .s 1 []), (7, .s 2 [])]), (4, [(15, .w []), (16, .w [])]), (5, [(18, .w []), (19, .w [])]), (6, [(0, .r 3), (6, .r 4), (7, .s 1 [3,4]), (9, .s 2 [3,4])])] [(1, 0), (2, 1), (3, 2), (4, 3)] mixed Try.func23 rfl (by kernel_rfl) (by kernel_rfl) (by simp [Try.ntmps23]) rfl ?_
      simp
      refine pcall_of (formed37 l ks vs (by omega)) (by simp) ?_
      simp [f0, e1]
      refine call_of c ?_
      simp [Try.results23]
      trace_state
  · have e1 : True := trivial
    have f0 : fmd l ks vs = false := by simpa using f0
    simp only [splitR, f0, Bool.false_and]
    have c := hc l ks vs (by omega) (by omega)
    refine pure_of_aw (ys := [_, _, _]) [] [(2, [(5, .s 1 []), (7, .s 2 [])]), (4, [(15, .w []), (16, .w [])]), (5, [(18, .w []), (19, .w [])]), (6, [(0, .r 3), (6, .r 4), (7, .s 1 [3,4]), (9, .s 2 [3,4])])] [(1, 0), (2, 1), (3, 2), (4, 3)] mixed Try.func23 rfl (by kernel_rfl) (by kernel_rfl) (by simp [Try.ntmps23]) rfl ?_
    simp
    refine pcall_of (formed37 l ks vs (by omega)) (by simp) ?_
    simp [f0, e1]
    refine call_of c ?_
    simp [Try.results23]
    trace_state
end Go.Av

/-! part N17i -/
namespace Go.Av
open Go.Proofs

set_option maxHeartbeats 1000000 in
theorem awake9 : PureC Try.prog 9 [] (.bool true) := by
  have c1 : PureC Try.prog 11 [.agg false [.bool true, .sl [.sc (.string ⟨#[97]⟩), .sc (.string ⟨#[99]⟩)], .sl [.int 1, .int 2]], .sc (.string ⟨#[98]⟩)] (.tp [.int 1, .bool false]) := find11 true [[97], [99]] [1, 2] [98] (by decide)
  have c2 : PureC Try.prog 16 [.agg false [.bool true, .sl [.sc (.string ⟨#[97]⟩), .sc (.string ⟨#[99]⟩)], .sl [.int 1, .int 2]], .int 1, .sc (.string ⟨#[98]⟩), .sl [.int 5]]
    (.agg false [.bool true, .sl [.sc (.string ⟨#[97]⟩), .sc (.string ⟨#[98]⟩), .sc (.string ⟨#[99]⟩)], .sl [.int 1, .int 5, .int 2]]) := ninsert16 true [[97], [99]] [1, 2] 1 [98] [5] rfl (by decide) (by decide) (by decide) (by decide)
  have c3 : PureC Try.prog 23 [.agg false [.bool true, .sl [.sc (.string ⟨#[97]⟩), .sc (.string ⟨#[98]⟩), .sc (.string ⟨#[99]⟩)], .sl [.int 1, .int 5, .int 2]]]
    (.tp [.agg false [.bool true, .sl [.sc (.string ⟨#[97]⟩)], .sl [.int 1]], .sc (.string ⟨#[98]⟩), .agg false [.bool true, .sl [.sc (.string ⟨#[98]⟩), .sc (.string ⟨#[99]⟩)], .sl [.int 5, .int 2]]]) := split23 true [[97], [98], [99]] [1, 5, 2] (by decide) (by decide)
  refine pure_of_aw (ys := [_]) [] [] [] mixed Try.func9 rfl (by kernel_rfl) (by kernel_rfl) (by simp [Try.ntmps9]) rfl ?_
  simp
  refine pcall_of c1 (by simp) ?_
  simp
  refine pcall_of c2 (by simp) ?_
  simp
  refine pcall_of c3 (by simp) ?_
  simp [Try.results9]
end Go.Av

/-! part N17j -/
namespace Go.Av
open Go.Proofs

def fewB (ks : List (List UInt8)) (vs : List Int) : Bool := decide (ks.length ≤ 40) && decide (vs.length ≤ 50) && ks.all fun s => decide (s.length ≤ 300)

theorem few10 (l : Bool) (ks : List (List UInt8)) (vs : List Int) : PureC Try.prog 10 [nodeP l ks vs] (.bool (fewB ks vs)) := by
  refine pure_of_aw (ys := [_]) [] [] [] mixed Try.func10 rfl (by kernel_rfl) (by kernel_rfl) (by simp [Try.ntmps10]) rfl ?_
  simp
  by_cases h1 : 40 < (ks.length : Int)
  · have : ¬ ks.length ≤ 40 := by omega
    simp [h1, fewB, this, Try.results10]
  · have k1 : ks.length ≤ 40 := by omega
    simp [h1]
    by_cases h2 : 50 < (vs.length : Int)
    · have : ¬ vs.length ≤ 50 := by omega
      simp [h2, fewB, this, Try.results10]
    · have k2 : vs.length ≤ 50 := by omega
      simp [h2]
      refine aw_loop0 (fun k : Nat => k ≤ ks.length ∧ ∀ x ∈ ks.take k, x.length ≤ 300) (fun k => [(1, .p (.ref (nodeP l ks vs))), (3, .p (.int k))]) (fun k => ks.length - k) 0 (by simp) (leN_id (by simp)) ?_
      rintro k ⟨j1, j2⟩
      by_cases c1 : k < ks.length
      · simp [c1]
        by_cases c2 : 300 < (ks[k].length : Int)
        · have : ks.all (fun s => decide (s.length ≤ 300)) = false := by
            rw [List.all_eq_false]; exact ⟨ks[k], by simp, by simp; omega⟩
          simp [c2, fewB, this, Try.results10]
        · simp [c2]
          refine ⟨k + 1, ⟨by omega, ?_⟩, by omega, leN_id ?_⟩
          · rw [List.take_succ_eq_append_getElem c1]; simp only [List.mem_append, List.mem_singleton]; rintro x (hx | rfl); exact j2 x hx; omega
          · simp [wrap64_id (n := (k : Int) + 1) (by omega) (by omega)]
      · have e : k = ks.length := by omega
        subst e
        have : ks.all (fun s => decide (s.length ≤ 300)) = true := by
          rw [List.all_eq_true]; intro x hx; simpa using j2 x (by simpa using hx)
        simp [c1, fewB, k1, k2, this, Try.results10]

theorem below_congr {p q : List UInt8 → Bool} {ks : List (List UInt8)} (h : ∀ s ∈ ks, p s = q s) : below p ks = below q ks := by
  induction ks with
  | nil => rfl
  | cons a l ih => unfold below at *; simp only [List.takeWhile_cons]; rw [h a (by simp)]; split <;> simp_all

/-- the law of Find and Child: its answer is true -/
theorem law3 (l : Bool) (ks : List (List UInt8)) (vs : List Int) (key : List UInt8) : PureC Try.prog 3 [nodeP l ks vs, .str key] (.bool true) := by
  refine pure_of_aw (ys := [_]) [] [] [] mixed Try.func3 rfl (by kernel_rfl) (by kernel_rfl) (by simp [Try.ntmps3]) rfl ?_
  simp
  refine pcall_of awake9 (by simp) ?_
  simp
  refine pcall_of (few10 l ks vs) (by simp) ?_
  by_cases h1 : fewB ks vs = true
  · simp [h1]
    simp [fewB] at h1
    by_cases h2 : 300 < (key.length : Int)
    · simp [h2]
      refine pcall_of awake9 (by simp) ?_
      simp [Try.results3]
    · simp [h2]
      refine pcall_of (find11 l ks vs key (by omega)) (by simp) ?_
      simp
      refine pcall_of (find_p l ks vs key (by omega) (fun s hs => by have := h1.2 s hs; omega) (by omega)) (by simp) ?_
      simp
      refine call_of (child13 l ks vs key (by omega)) ?_
      simp
      refine call_of (rchild14 l ks vs key (by omega) (fun s hs => by have := h1.2 s hs; omega) (by omega)) ?_
      simp [Try.results3]
  · simp [h1]
    refine pcall_of awake9 (by simp) ?_
    simp [Try.results3]
end Go.Av

/-! part N17k -/
namespace Go.Av
open Go.Proofs

theorem laidO : laidOutB Try.prog = true := by kernel_rfl
theorem cellsT3 : Try.prog.cellsOf 3 = 1 := by kernel_rfl
theorem cellsT4 : Try.prog.cellsOf 4 = 1 := by kernel_rfl
theorem cellsT9 : Try.prog.cellsOf 9 = 1 := by kernel_rfl
theorem cellsT22 : Try.prog.cellsOf 22 = 1 := by kernel_rfl
theorem cellsT23 : Try.prog.cellsOf 23 = 1 := by kernel_rfl
theorem cellsT25 : Try.prog.cellsOf 25 = 3 := by kernel_rfl

def nodeS (x : PC) : Prop := ∃ l ks vs, x = nodeP l ks vs
def strS (x : PC) : Prop := ∃ s, x = .str s
def intS (x : PC) : Prop := ∃ n : Int, x = .int n ∧ -9223372036854775808 ≤ n ∧ n ≤ 9223372036854775807
def intsS (x : PC) : Prop := ∃ vs : List Int, x = .sl (vs.map PC.int)

theorem strs_of {xs : List PC} (h : ∀ x ∈ xs, ∃ s : List UInt8, x = .str s ∧ s.length ≤ maxLen) : ∃ ks : List (List UInt8), xs = ks.map PC.str := by
  induction xs with
  | nil => exact ⟨[], rfl⟩
  | cons x xs ih =>
    obtain ⟨ks, rfl⟩ := ih fun y hy => h y (by simp [hy])
    obtain ⟨s, rfl, _⟩ := h x (by simp)
    exact ⟨s :: ks, rfl⟩
theorem ints_of {xs : List PC} (h : ∀ x ∈ xs, ∃ n : Int, x = .int n ∧ (Lit.int .i64 n).wf = true) : ∃ ks : List Int, xs = ks.map PC.int := by
  induction xs with
  | nil => exact ⟨[], rfl⟩
  | cons x xs ih =>
    obtain ⟨ks, rfl⟩ := ih fun y hy => h y (by simp [hy])
    obtain ⟨s, rfl, _⟩ := h x (by simp)
    exact ⟨s :: ks, rfl⟩

theorem rd25 : RdV Try.prog 25 nodeS := by
  refine rv_struct Try.underlying25 ((rd_struct (Ss := [_, _, _]) Try.underlying25 (by rw [cellsT25]; simp [totF, cellsT4, cellsT22, cellsT23])
    ⟨rfl, (rd_bool Try.underlying4).c, (by simp [cellsT4]), rd_slice Try.underlying22 (by rw [cellsT9]; omega) (rd_string Try.underlying9), (by simp [cellsT4, cellsT22]), rd_slice Try.underlying23 (by rw [cellsT3]; omega) (rd_int Try.underlying3), trivial⟩).mono ?_) ?_
  · rintro x ⟨ys, rfl, h⟩
    match ys, h with
    | [a, b, c], ⟨⟨l, ha⟩, ⟨ks, hb, _, hk⟩, ⟨vs, hc, _, hv⟩, _⟩ =>
      obtain ⟨ks', rfl⟩ := strs_of hk
      obtain ⟨vs', rfl⟩ := ints_of hv
      subst ha; subst hb; subst hc
      exact ⟨l, ks', vs', rfl⟩
    | [], h => exact h.elim
    | [_], h => exact h.2.elim
    | [_, _], h => exact h.2.2.elim
    | _ :: _ :: _ :: _ :: _, h => exact h.2.2.2.elim
  · rintro x ⟨l, ks, vs, rfl⟩; exact ⟨_, rfl⟩
theorem rd9 : RdV Try.prog 9 strS :=
  rv_one (by rw [Try.underlying9]; simp) (by rw [Try.underlying9]; simp) ((rd_string Try.underlying9).c.mono fun x ⟨s, h, _⟩ => ⟨s, h⟩) (by rintro x ⟨s, rfl⟩ b xs h; cases h)
theorem rd3 : RdV Try.prog 3 intS :=
  rv_one (by rw [Try.underlying3]; simp) (by rw [Try.underlying3]; simp) ((rd_int Try.underlying3).c.mono fun x ⟨n, h, hw⟩ => ⟨n, h, bounds_i64 hw⟩) (by rintro x ⟨s, rfl, _⟩ b xs h; cases h)
theorem rd23 : RdV Try.prog 23 intsS :=
  rv_one (by rw [Try.underlying23]; simp) (by rw [Try.underlying23]; simp) ((rd_slice Try.underlying23 (by rw [cellsT3]; omega) (rd_int Try.underlying3)).mono fun x ⟨xs, h, _, hv⟩ => by
    obtain ⟨vs, rfl⟩ := ints_of hv; exact ⟨vs, h⟩) (by rintro x ⟨s, rfl⟩ b xs h; cases h)
end Go.Av
