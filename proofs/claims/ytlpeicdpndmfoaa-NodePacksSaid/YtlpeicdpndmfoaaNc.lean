/- What Insert, Remove and Same compute, in the program and by definition. -/
import Derived.Test.YtlpeicdpndmfoaaNb
set_option linter.all false
/-! part N17m -/
namespace Go.Av
open Go.Proofs

theorem formed25 (l : Bool) (ks : List (List UInt8)) (vs : List Int) (hk : ks.length ≤ 1000000000000) : PureC Try.prog 25 [nodeP l ks vs] (.bool (fmd l ks vs)) := by
  refine pure_of_aw (ys := [_]) [] [] [] mixed Try.func25 rfl (by kernel_rfl) (by kernel_rfl) (by simp [Try.ntmps25]) rfl ?_
  cases l
  · have w : IntKind.i64.wrap ((ks.length : Int) + 1) = ((ks.length + 1 : Nat) : Int) := wrap64_id (by omega) (by omega)
    simp [Try.results25, w, fmd, ← nat_beq]
  · simp [Try.results25, fmd, ← nat_beq]

theorem part44 (nx : Nat) (l : Bool) (ks : List (List UInt8)) (vs : List Int) (k m u v : Nat) (h1 : k ≤ m) (h2 : m ≤ ks.length) (h3 : u ≤ v) (h4 : v ≤ vs.length) (h5 : ks.length ≤ 1000000000000) (h6 : vs.length ≤ 1000000000000) :
    GenC Try.prog 44 [.p (nodeP l ks vs), .p (.int k), .p (.int m), .p (.int u), .p (.int v)] ⟨[], [], nx⟩
      (.agg false [.p (.bool l), .own nx (((ks.map PC.str).take m).drop k), .own (nx + 1) (((vs.map PC.int).take v).drop u)]) ⟨[], [(nx, 9, 1), (nx + 1, 3, 1)], nx + 2⟩ := by
  refine gen_of_aw (rs := [_]) [] [(1, [(8, .f [1]), (15, .f [1]), (17, .s 1 [])])] [(1, nx)] mixed Try.func44 rfl (by kernel_rfl) (by kernel_rfl) (by simp [Try.ntmps44]) rfl ?_
  simp [Try.results44]
  repeat' refine And.intro ?_ ?_
  all_goals first
    | omega
    | exact ⟨[(nx, nx + 1), (nx + 1, nx + 2)], by simp; intro a b h; omega⟩
    | (intro y hy; have := List.mem_of_mem_take (List.mem_of_mem_drop hy); revert y; simp; done)
    | (intro y hy; replace hy := List.mem_of_mem_take (List.mem_of_mem_drop hy); obtain ⟨z, _, rfl⟩ := List.mem_map.1 hy; rfl)

theorem lcopied15 (l : Bool) (ks : List (List UInt8)) (vs : List Int) (hk : ks.length ≤ 1000000000000) (hv : vs.length ≤ 1000000000000) : PureC Try.prog 15 [nodeP l ks vs] (nodeP l ks vs) := by
  refine pure_of_aw (ys := [_]) [] [(1, [(5, .f [1]), (9, .f [1]), (11, .s 1 [])])] [(1, 0)] mixed Try.func15 rfl (by kernel_rfl) (by kernel_rfl) (by simp [Try.ntmps15]) rfl ?_
  simp [Try.results15]
  omega

def sameB (l : Bool) (ks : List (List UInt8)) (vs : List Int) (l' : Bool) (ks' : List (List UInt8)) (vs' : List Int) : Bool := l == l' && ks == ks' && vs == vs'

theorem same18 (l : Bool) (ks : List (List UInt8)) (vs : List Int) (l' : Bool) (ks' : List (List UInt8)) (vs' : List Int) (hk : ks.length ≤ 1000000000000) (hv : vs.length ≤ 1000000000000) :
    PureC Try.prog 18 [nodeP l ks vs, nodeP l' ks' vs'] (.bool (sameB l ks vs l' ks' vs')) := by
  refine pure_of_aw (ys := [_]) [] [] [] mixed Try.func18 rfl (by kernel_rfl) (by kernel_rfl) (by simp [Try.ntmps18]) rfl ?_
  simp
  by_cases c0 : l = l'
  · subst c0
    simp
    by_cases c1 : ks.length = ks'.length
    · simp [c1]
      by_cases c2 : vs.length = vs'.length
      · simp [c2]
        refine aw_loop0 (fun k : Nat => k ≤ ks'.length ∧ ks.take k = ks'.take k) (fun k => [(2, .p (.ref (nodeP l ks vs))), (3, .p (.ref (nodeP l ks' vs'))), (5, .p (.int k))]) (fun k => ks'.length - k) 0 (by simp) (leN_id (by simp)) ?_
        rintro k ⟨j1, j2⟩
        by_cases d1 : k < ks'.length
        · have d1' : k < ks.length := by omega
          simp [d1, c1]
          by_cases d2 : ks[k] = ks'[k]
          · simp [d1, c1, d2, d1']
            refine ⟨k + 1, ⟨by omega, ?_⟩, by omega, leN_id ?_⟩
            · rw [List.take_succ_eq_append_getElem d1, List.take_succ_eq_append_getElem d1', j2, d2]
            · simp [wrap64_id (n := (k : Int) + 1) (by omega) (by omega)]
          · have d3 : (ks[k] == ks'[k]) = false := by simpa using d2
            have d4 : (ks[k] != ks'[k]) = true := by simpa using d2
            have r : sameB l ks vs l ks' vs' = false := by simp [sameB]; rintro rfl; exact absurd rfl d2
            simp [d1, c1, d3, d4, d1', Try.results18, r]
        · have e : k = ks'.length := by omega
          subst e
          have ek : ks = ks' := by rw [List.take_of_length_le (by omega), List.take_of_length_le (by omega)] at j2; exact j2
          subst ek
          simp
          refine aw_loop0 (fun k : Nat => k ≤ vs'.length ∧ vs.take k = vs'.take k) (fun k => [(2, .p (.ref (nodeP l ks vs))), (3, .p (.ref (nodeP l ks vs'))), (6, .p (.int k))]) (fun k => vs'.length - k) 0 (by simp) (leN_id (by simp)) ?_
          rintro k ⟨i1, i2⟩
          by_cases d1 : k < vs'.length
          · have d1' : k < vs.length := by omega
            simp [d1, c2]
            by_cases d2 : vs[k] = vs'[k]
            · simp [d1, c2, d2, d1']
              refine ⟨k + 1, ⟨by omega, ?_⟩, by omega, leN_id ?_⟩
              · rw [List.take_succ_eq_append_getElem d1, List.take_succ_eq_append_getElem d1', i2, d2]
              · simp [wrap64_id (n := (k : Int) + 1) (by omega) (by omega)]
            · have d3 : (vs[k] == vs'[k]) = false := by simpa using d2
              have d4 : (vs[k] != vs'[k]) = true := by simpa using d2
              have r : sameB l ks vs l ks vs' = false := by simp [sameB]; rintro rfl; exact absurd rfl d2
              simp [d1, c2, d3, d4, d1', Try.results18, r]
          · have e : k = vs'.length := by omega
            subst e
            have ek : vs = vs' := by rw [List.take_of_length_le (by omega), List.take_of_length_le (by omega)] at i2; exact i2
            subst ek
            have r : sameB l ks vs l ks vs = true := by simp [sameB]
            simp [Try.results18, r]
      · have n2 : ((vs.length : Int) != (vs'.length : Int)) = true := by simp; omega
        have r : sameB l ks vs l ks' vs' = false := by simp [sameB]; rintro _ rfl; exact absurd rfl c2
        simp [n2, Try.results18, r]
    · have n1 : ((ks.length : Int) != (ks'.length : Int)) = true := by simp; omega
      have r : sameB l ks vs l ks' vs' = false := by simp [sameB]; rintro rfl; exact absurd rfl c1
      simp [n1, Try.results18, r]
  · have n0 : (l != l') = true := by simpa using c0
    have r : sameB l ks vs l' ks' vs' = false := by simp [sameB]; intro h; exact absurd h c0
    simp [n0, Try.results18, r]
end Go.Av

/-! part N17n -/
namespace Go.Av
open Go.Proofs

theorem wS {ks : List (List UInt8)} {x : PC} (h : x ∈ ks.map PC.str) : x.width = 1 := by obtain ⟨z, _, rfl⟩ := List.mem_map.1 h; rfl
theorem wI {vs : List Int} {x : PC} (h : x ∈ vs.map PC.int) : x.width = 1 := by obtain ⟨z, _, rfl⟩ := List.mem_map.1 h; rfl
theorem wTS {ks : List (List UInt8)} {i : Nat} : ∀ x ∈ List.take i (ks.map PC.str), x.width = 1 := fun _ h => wS (List.mem_of_mem_take h)
theorem wDS {ks : List (List UInt8)} {i : Nat} : ∀ x ∈ List.drop i (ks.map PC.str), x.width = 1 := fun _ h => wS (List.mem_of_mem_drop h)
theorem wTI {vs : List Int} {i : Nat} : ∀ x ∈ List.take i (vs.map PC.int), x.width = 1 := fun _ h => wI (List.mem_of_mem_take h)
theorem wDI {vs : List Int} {i : Nat} : ∀ x ∈ List.drop i (vs.map PC.int), x.width = 1 := fun _ h => wI (List.mem_of_mem_drop h)
theorem wTSk {ks : List (List UInt8)} {i : Nat} {key : List UInt8} : ∀ x, x ∈ List.take i (ks.map PC.str) ∨ x = PC.str key → x.width = 1 := by
  rintro x (h | rfl); exact wTS x h; rfl
theorem wTIu {vs us : List Int} {i : Nat} : ∀ x, (x ∈ List.take i (vs.map PC.int) ∨ ∃ a, a ∈ us ∧ PC.int a = x) → x.width = 1 := by
  rintro x (h | ⟨a, _, rfl⟩); exact wTI x h; rfl

set_option maxHeartbeats 1000000 in
theorem rinsert19 (l : Bool) (ks : List (List UInt8)) (vs : List Int) (i : Nat) (key : List UInt8) (us : List Int) (hf : fmd l ks vs = true) (hi : i ≤ ks.length) (hk : ks.length ≤ 1000000000) (hv : vs.length ≤ 1000000000) (hu : us.length ≤ 1000000000) :
    PureC Try.prog 19 [nodeP l ks vs, .int i, .str key, .sl (us.map PC.int)] (insN l ks vs i key us) := by
  have e1 : ¬ ks.length < i := by omega
  have hlen : vs.length = ks.length + (if l then 0 else 1) := by simpa [fmd] using hf
  have w1 : IntKind.i64.wrap ((i : Int) + 1) = ((i + 1 : Nat) : Int) := by rw [wrap64_id (by omega) (by omega)]; rfl
  refine pure_of_aw (ys := [_]) [] [(5, [(1, .r 1), (6, .f [1]), (8, .s 1 [])]), (8, [(1, .r 1), (6, .f [1]), (8, .s 1 [])]), (9, [(1, .r 1), (7, .f [1]), (9, .s 1 [])])] [(1, 3)] mixed Try.func19 rfl (by kernel_rfl) (by kernel_rfl) (by simp [Try.ntmps19]) rfl ?_
  simp
  refine pcall_of (formed25 l ks vs (by omega)) (by simp) ?_
  simp [hf, e1]
  refine gcall_of0 (part44 1 l ks vs 0 i 0 i (by omega) (by omega) (by omega) (by omega) (by omega) (by omega)) (by simp) trivial trivial rfl ?_
  simp
  cases l
  · simp at hlen
    have e2 : i + 1 ≤ vs.length := by omega
    simp [w1, Try.results19]
    exact ⟨wTS, by omega, by omega, hi, wTSk, wDS, by omega, by omega, wTI, by omega, by omega, by omega, e2, wTIu, wDI, by omega, by omega⟩
  · simp at hlen
    have e2 : i ≤ vs.length := by omega
    simp [Try.results19]
    exact ⟨wTS, by omega, by omega, hi, wTSk, wDS, by omega, by omega, wTI, by omega, by omega, e2, wTIu, wDI, by omega, by omega⟩

set_option maxHeartbeats 1000000 in
theorem nremove17 (l : Bool) (ks : List (List UInt8)) (vs : List Int) (i : Nat) (hf : fmd l ks vs = true) (hi : i < ks.length) (hk : ks.length ≤ 1000000000) (hv : vs.length ≤ 1000000000) :
    PureC Try.prog 17 [nodeP l ks vs, .int i] (nodeP l (ks.take i ++ ks.drop (i + 1)) (vs.take (i + (if l then 0 else 1)) ++ vs.drop (i + (if l then 0 else 1) + 1))) := by
  have hc := fun n => copied36 n l ks vs (by omega) (by omega)
  have e1 : ¬ ks.length ≤ i := by omega
  have hlen : vs.length = ks.length + (if l then 0 else 1) := by simpa [fmd] using hf
  obtain ⟨b, hb⟩ : ∃ b : Nat, b = if l then 0 else 1 := ⟨_, rfl⟩
  have hb2 : b ≤ 1 := by rw [hb]; split <;> omega
  have hbi : (if l = true then (0 : Int) else 1) = (b : Int) := by rw [hb]; split <;> rfl
  rw [← hb] at hlen ⊢
  have w1 : IntKind.i64.wrap ((i : Int) + 1) = ((i + 1 : Nat) : Int) := by rw [wrap64_id (by omega) (by omega)]; rfl
  have w2 : IntKind.i64.wrap ((i : Int) + (b : Int)) = ((i + b : Nat) : Int) := by rw [wrap64_id (by omega) (by omega)]; rfl
  have w3 : IntKind.i64.wrap (((i + b : Nat) : Int) + 1) = ((i + b + 1 : Nat) : Int) := by rw [wrap64_id (by omega) (by omega)]; rfl
  refine pure_of_gen (xs := [_, _]) (r := .agg false [.p (.bool l), .view 0 0 (ks.length - 1) 1 none, .view 1 0 (vs.length - 1) 1 none])
    (tb' := ⟨[(0, ⟨9, 1, ((ks.take i ++ ks.drop (i + 1)).map PC.str).map .p⟩), (1, ⟨3, 1, ((vs.take (i + b) ++ vs.drop (i + b + 1)).map PC.int).map .p⟩)], [], 2⟩) ?_ (bor_node rfl rfl (by simp; omega) (by simp; omega))
  refine gen_of_aw (rs := [_]) [2] [(5, [(1, .r 1), (5, .f [1]), (7, .r 1), (11, .f [1]), (13, .s 1 []), (15, .s 1 [])])] [(1, 0)] mixed Try.func17 rfl (by kernel_rfl) (by kernel_rfl) (by simp [Try.ntmps17]) rfl ?_
  simp
  refine gcall_of0 (hc _) (by simp) trivial trivial rfl ?_
  simp
  refine bcall_of0 (formed37 l ks vs (by omega)) (by simp [borF, all2, tkS, tkI]) rfl ?_
  simp [hf, e1]
  refine bcall_of0 (behind41 l ks vs) (by simp [borF, all2, tkS, tkI]) rfl ?_
  simp [hbi, w2]
  refine fcall_of0 (delete42 _ 2 (by omega) (ks.map PC.str) ks.length i (i + 1) (by simp) (by omega) (by omega) (by omega)) (by simp [w1]) (by simp [sub1]) trivial rfl (by simp) ?_
  simp
  refine fcall_of0 (delete43 _ 3 (by omega) (vs.map PC.int) vs.length (i + b) (i + b + 1) (by simp) (by omega) (by omega) (by omega)) (by simp; exact w3.symm) (by simp [sub1]) trivial rfl (by simp) ?_
  simp [Try.results17]
  exact ⟨[(0, 4), (1, 5)], by simp⟩
end Go.Av

/-! part N17o -/
namespace Go.Av
open Go.Proofs

theorem rinsert19n (l : Bool) (ks : List (List UInt8)) (vs : List Int) (at_ : Int) (key : List UInt8) (us : List Int) (hf : fmd l ks vs = false ∨ at_ < 0 ∨ (ks.length : Int) < at_) (hk : ks.length ≤ 1000000000) :
    PureC Try.prog 19 [nodeP l ks vs, .int at_, .str key, .sl (us.map PC.int)] (nodeP l ks vs) := by
  refine pure_of_aw (ys := [_]) [] [(5, [(1, .r 1), (6, .f [1]), (8, .s 1 [])]), (8, [(1, .r 1), (6, .f [1]), (8, .s 1 [])]), (9, [(1, .r 1), (7, .f [1]), (9, .s 1 [])])] [(1, 3)] mixed Try.func19 rfl (by kernel_rfl) (by kernel_rfl) (by simp [Try.ntmps19]) rfl ?_
  simp
  refine pcall_of (formed25 l ks vs (by omega)) (by simp) ?_
  by_cases f0 : fmd l ks vs = false
  · simp [f0, Try.results19]
  · have f0' : fmd l ks vs = true := by simpa using f0
    by_cases f1 : at_ < 0
    · simp [f0', f1, Try.results19]
    · have f2 : (ks.length : Int) < at_ := by
        rcases hf with h | h | h
        · exact absurd h f0
        · exact absurd h f1
        · exact h
      simp [f0', f1, f2, Try.results19]

theorem nremove17n (l : Bool) (ks : List (List UInt8)) (vs : List Int) (at_ : Int) (hf : fmd l ks vs = false ∨ at_ < 0 ∨ (ks.length : Int) ≤ at_) (hk : ks.length ≤ 1000000000) (hv : vs.length ≤ 1000000000) :
    PureC Try.prog 17 [nodeP l ks vs, .int at_] (nodeP l ks vs) := by
  have hc := fun n => copied36 n l ks vs (by omega) (by omega)
  refine pure_of_gen (xs := [_, _]) (r := .agg false [.p (.bool l), .view 0 0 ks.length 1 none, .view 1 0 vs.length 1 none])
    (tb' := ⟨[(0, ⟨9, 1, (ks.map PC.str).map .p⟩), (1, ⟨3, 1, (vs.map PC.int).map .p⟩)], [], 2⟩) ?_ (bor_node rfl rfl rfl rfl)
  refine gen_of_aw (rs := [_]) [2] [(5, [(1, .r 1), (5, .f [1]), (7, .r 1), (11, .f [1]), (13, .s 1 []), (15, .s 1 [])])] [(1, 0)] mixed Try.func17 rfl (by kernel_rfl) (by kernel_rfl) (by simp [Try.ntmps17]) rfl ?_
  simp
  refine gcall_of0 (hc _) (by simp) trivial trivial rfl ?_
  simp
  refine bcall_of0 (formed37 l ks vs (by omega)) (by simp [borF, all2, tkS, tkI]) rfl ?_
  by_cases f0 : fmd l ks vs = false
  · simp [f0, Try.results17]
    exact ⟨[(0, 2), (1, 3)], by simp⟩
  · have f0' : fmd l ks vs = true := by simpa using f0
    by_cases f1 : at_ < 0
    · simp [f0', f1, Try.results17]
      exact ⟨[(0, 2), (1, 3)], by simp⟩
    · have f2 : (ks.length : Int) ≤ at_ := by
        rcases hf with h | h | h
        · exact absurd h f0
        · exact absurd h f1
        · exact h
      simp [f0', f1, f2, Try.results17]
      exact ⟨[(0, 2), (1, 3)], by simp⟩

set_option maxHeartbeats 1000000 in
theorem rremove20 (l : Bool) (ks : List (List UInt8)) (vs : List Int) (i : Nat) (hf : fmd l ks vs = true) (hi : i < ks.length) (hk : ks.length ≤ 1000000000) (hv : vs.length ≤ 1000000000) :
    PureC Try.prog 20 [nodeP l ks vs, .int i] (nodeP l (ks.take i ++ ks.drop (i + 1)) (vs.take (i + (if l then 0 else 1)) ++ vs.drop (i + (if l then 0 else 1) + 1))) := by
  have e1 : ¬ ks.length ≤ i := by omega
  have hlen : vs.length = ks.length + (if l then 0 else 1) := by simpa [fmd] using hf
  have w1 : IntKind.i64.wrap ((i : Int) + 1) = ((i + 1 : Nat) : Int) := by rw [wrap64_id (by omega) (by omega)]; rfl
  have w2 : IntKind.i64.wrap ((i : Int) + 1 + 1) = ((i + 1 + 1 : Nat) : Int) := by rw [wrap64_id (by omega) (by omega)]; rfl
  refine pure_of_aw (ys := [_]) [] [(7, [(1, .r 1), (7, .f [1]), (9, .s 1 [])]), (8, [(1, .r 1), (7, .f [1]), (9, .s 1 [])])] [(1, 3)] mixed Try.func20 rfl (by kernel_rfl) (by kernel_rfl) (by simp [Try.ntmps20]) rfl ?_
  simp
  refine pcall_of (formed25 l ks vs (by omega)) (by simp) ?_
  simp [hf, e1]
  cases l
  · simp at hlen
    simp [w1, w2]
    refine gcall_of0 (part44 1 false ks vs 0 i 0 (i + 1) (by omega) (by omega) (by omega) (by omega) (by omega) (by omega)) (by simp) trivial trivial rfl ?_
    have t1 : ((i : Int) + 1 + 1).toNat = i + 1 + 1 := by omega
    simp [w1, w2, t1, Try.results20]
    exact ⟨by omega, by omega, wTS, wDS, by omega, by omega, by omega, by omega, wTI, wDI, by omega, by omega⟩
  · simp at hlen
    simp [w1, w2]
    refine gcall_of0 (part44 1 true ks vs 0 i 0 i (by omega) (by omega) (by omega) (by omega) (by omega) (by omega)) (by simp) trivial trivial rfl ?_
    simp [w1, w2, Try.results20]
    exact ⟨by omega, by omega, wTS, wDS, by omega, by omega, by omega, by omega, wTI, wDI, by omega, by omega⟩

theorem rremove20n (l : Bool) (ks : List (List UInt8)) (vs : List Int) (at_ : Int) (hf : fmd l ks vs = false ∨ at_ < 0 ∨ (ks.length : Int) ≤ at_) (hk : ks.length ≤ 1000000000) :
    PureC Try.prog 20 [nodeP l ks vs, .int at_] (nodeP l ks vs) := by
  refine pure_of_aw (ys := [_]) [] [(7, [(1, .r 1), (7, .f [1]), (9, .s 1 [])]), (8, [(1, .r 1), (7, .f [1]), (9, .s 1 [])])] [(1, 3)] mixed Try.func20 rfl (by kernel_rfl) (by kernel_rfl) (by simp [Try.ntmps20]) rfl ?_
  simp
  refine pcall_of (formed25 l ks vs (by omega)) (by simp) ?_
  by_cases f0 : fmd l ks vs = false
  · simp [f0, Try.results20]
  · have f0' : fmd l ks vs = true := by simpa using f0
    by_cases f1 : at_ < 0
    · simp [f0', f1, Try.results20]
    · have f2 : (ks.length : Int) ≤ at_ := by
        rcases hf with h | h | h
        · exact absurd h f0
        · exact absurd h f1
        · exact h
      simp [f0', f1, f2, Try.results20]

/-! ### whatever the place -/
def insOk (l : Bool) (ks : List (List UInt8)) (vs : List Int) (a : Int) : Bool := fmd l ks vs && decide (0 ≤ a) && decide (a ≤ ks.length)
def insKs (l : Bool) (ks : List (List UInt8)) (vs : List Int) (a : Int) (key : List UInt8) : List (List UInt8) := if insOk l ks vs a then ks.take a.toNat ++ [key] ++ ks.drop a.toNat else ks
def insVs (l : Bool) (ks : List (List UInt8)) (vs : List Int) (a : Int) (us : List Int) : List Int := if insOk l ks vs a then vs.take a.toNat ++ us ++ vs.drop (if l then a.toNat else a.toNat + 1) else vs
def remOk (l : Bool) (ks : List (List UInt8)) (vs : List Int) (a : Int) : Bool := fmd l ks vs && decide (0 ≤ a) && decide (a < ks.length)
def remKs (l : Bool) (ks : List (List UInt8)) (vs : List Int) (a : Int) : List (List UInt8) := if remOk l ks vs a then ks.take a.toNat ++ ks.drop (a.toNat + 1) else ks
def remVs (l : Bool) (ks : List (List UInt8)) (vs : List Int) (a : Int) : List Int := if remOk l ks vs a then vs.take (a.toNat + (if l then 0 else 1)) ++ vs.drop (a.toNat + (if l then 0 else 1) + 1) else vs

theorem insOk_no {l : Bool} {ks : List (List UInt8)} {vs : List Int} {a : Int} (h : insOk l ks vs a = false) : fmd l ks vs = false ∨ a < 0 ∨ (ks.length : Int) < a := by
  simp only [insOk, Bool.and_eq_false_iff, decide_eq_false_iff_not] at h; rcases h with (h | h) | h
  · exact .inl h
  · exact .inr (.inl (by omega))
  · exact .inr (.inr (by omega))
theorem remOk_no {l : Bool} {ks : List (List UInt8)} {vs : List Int} {a : Int} (h : remOk l ks vs a = false) : fmd l ks vs = false ∨ a < 0 ∨ (ks.length : Int) ≤ a := by
  simp only [remOk, Bool.and_eq_false_iff, decide_eq_false_iff_not] at h; rcases h with (h | h) | h
  · exact .inl h
  · exact .inr (.inl (by omega))
  · exact .inr (.inr (by omega))
theorem insOk_yes {l : Bool} {ks : List (List UInt8)} {vs : List Int} {a : Int} (h : insOk l ks vs a = true) : fmd l ks vs = true ∧ ∃ i : Nat, a = i ∧ i ≤ ks.length := by
  simp only [insOk, Bool.and_eq_true, decide_eq_true_eq] at h; exact ⟨h.1.1, a.toNat, by omega, by omega⟩
theorem remOk_yes {l : Bool} {ks : List (List UInt8)} {vs : List Int} {a : Int} (h : remOk l ks vs a = true) : fmd l ks vs = true ∧ ∃ i : Nat, a = i ∧ i < ks.length := by
  simp only [remOk, Bool.and_eq_true, decide_eq_true_eq] at h; exact ⟨h.1.1, a.toNat, by omega, by omega⟩

theorem insert16 (l : Bool) (ks : List (List UInt8)) (vs : List Int) (a : Int) (key : List UInt8) (us : List Int) (hk : ks.length ≤ 1000000000) (hv : vs.length ≤ 1000000000) (hu : us.length ≤ 1000000000) :
    PureC Try.prog 16 [nodeP l ks vs, .int a, .str key, .sl (us.map PC.int)] (nodeP l (insKs l ks vs a key) (insVs l ks vs a us)) := by
  cases h : insOk l ks vs a with
  | false => simpa [insKs, insVs, h] using ninsert16n l ks vs a key us (insOk_no h) hk hv
  | true => obtain ⟨hf, i, rfl, hi⟩ := insOk_yes h; simpa [insKs, insVs, h, insN] using ninsert16 l ks vs i key us hf hi hk hv hu
theorem insert19 (l : Bool) (ks : List (List UInt8)) (vs : List Int) (a : Int) (key : List UInt8) (us : List Int) (hk : ks.length ≤ 1000000000) (hv : vs.length ≤ 1000000000) (hu : us.length ≤ 1000000000) :
    PureC Try.prog 19 [nodeP l ks vs, .int a, .str key, .sl (us.map PC.int)] (nodeP l (insKs l ks vs a key) (insVs l ks vs a us)) := by
  cases h : insOk l ks vs a with
  | false => simpa [insKs, insVs, h] using rinsert19n l ks vs a key us (insOk_no h) hk
  | true => obtain ⟨hf, i, rfl, hi⟩ := insOk_yes h; simpa [insKs, insVs, h, insN] using rinsert19 l ks vs i key us hf hi hk hv hu
theorem remove17 (l : Bool) (ks : List (List UInt8)) (vs : List Int) (a : Int) (hk : ks.length ≤ 1000000000) (hv : vs.length ≤ 1000000000) :
    PureC Try.prog 17 [nodeP l ks vs, .int a] (nodeP l (remKs l ks vs a) (remVs l ks vs a)) := by
  cases h : remOk l ks vs a with
  | false => simpa [remKs, remVs, h] using nremove17n l ks vs a (remOk_no h) hk hv
  | true => obtain ⟨hf, i, rfl, hi⟩ := remOk_yes h; simpa [remKs, remVs, h] using nremove17 l ks vs i hf hi hk hv
theorem remove20 (l : Bool) (ks : List (List UInt8)) (vs : List Int) (a : Int) (hk : ks.length ≤ 1000000000) (hv : vs.length ≤ 1000000000) :
    PureC Try.prog 20 [nodeP l ks vs, .int a] (nodeP l (remKs l ks vs a) (remVs l ks vs a)) := by
  cases h : remOk l ks vs a with
  | false => simpa [remKs, remVs, h] using rremove20n l ks vs a (remOk_no h) hk
  | true => obtain ⟨hf, i, rfl, hi⟩ := remOk_yes h; simpa [remKs, remVs, h] using rremove20 l ks vs i hf hi hk hv
theorem insKs_le {l : Bool} {ks : List (List UInt8)} {vs : List Int} {a : Int} {key : List UInt8} : (insKs l ks vs a key).length ≤ ks.length + 1 := by
  unfold insKs; split
  · simp; omega
  · omega
theorem insVs_le {l : Bool} {ks : List (List UInt8)} {vs us : List Int} {a : Int} : (insVs l ks vs a us).length ≤ vs.length + us.length := by
  unfold insVs; split
  · rename_i h; obtain ⟨hf, i, rfl, hi⟩ := insOk_yes h; simp; split <;> omega
  · omega
theorem remKs_le {l : Bool} {ks : List (List UInt8)} {vs : List Int} {a : Int} : (remKs l ks vs a).length ≤ ks.length := by
  unfold remKs; split
  · simp; omega
  · omega
theorem remVs_le {l : Bool} {ks : List (List UInt8)} {vs : List Int} {a : Int} : (remVs l ks vs a).length ≤ vs.length := by
  unfold remVs; split
  · simp; omega
  · omega
@[simp] theorem sameB_self {l : Bool} {ks : List (List UInt8)} {vs : List Int} : sameB l ks vs l ks vs = true := by simp [sameB]

set_option maxHeartbeats 1000000 in
theorem law4 (l : Bool) (ks : List (List UInt8)) (vs : List Int) (a : Int) (key : List UInt8) (us : List Int) : PureC Try.prog 4 [nodeP l ks vs, .agg false [.int a, .str key, .sl (us.map PC.int)]] (.bool true) := by
  refine pure_of_aw (ys := [_]) [] [(6, [(0, .r 1), (11, .r 2), (19, .r 3)])] [(1, 1), (2, 2), (3, 0)] mixed Try.func4 rfl (by kernel_rfl) (by kernel_rfl) (by simp [Try.ntmps4]) rfl ?_
  simp
  refine pcall_of awake9 (by simp) ?_
  simp
  refine pcall_of (few10 l ks vs) (by simp) ?_
  by_cases h1 : fewB ks vs = true
  · simp [h1]
    simp [fewB] at h1
    by_cases h2 : 300 < (key.length : Int)
    · simp [h2]
      refine pcall_of awake9 (by simp) ?_
      simp [Try.results4]
    · simp [h2]
      by_cases h3 : 20 < (us.length : Int)
      · simp [h3]
        refine pcall_of awake9 (by simp) ?_
        simp [Try.results4]
      · simp [h3]
        refine pcall_of (lcopied15 l ks vs (by omega) (by omega)) (by simp) ?_
        simp
        refine pcall_of (insert16 l ks vs a key us (by omega) (by omega) (by omega)) (by simp) ?_
        simp
        refine pcall_of (remove17 l ks vs a (by omega) (by omega)) (by simp) ?_
        have k1 := @insKs_le l ks vs a key
        have k2 := @insVs_le l ks vs us a
        have k3 := @remKs_le l ks vs a
        have k4 := @remVs_le l ks vs a
        simp
        refine call_of (insert19 l ks vs a key us (by omega) (by omega) (by omega)) ?_
        simp
        refine call_of (same18 l (insKs l ks vs a key) (insVs l ks vs a us) l (insKs l ks vs a key) (insVs l ks vs a us) (by omega) (by omega)) ?_
        simp
        refine call_of (remove20 l ks vs a (by omega) (by omega)) ?_
        simp
        refine call_of (same18 l (remKs l ks vs a) (remVs l ks vs a) l (remKs l ks vs a) (remVs l ks vs a) (by omega) (by omega)) ?_
        simp
        refine call_of (same18 l ks vs l ks vs (by omega) (by omega)) ?_
        simp [Try.results4]
  · simp [h1]
    refine pcall_of awake9 (by simp) ?_
    simp [Try.results4]
end Go.Av

/-! part N17p -/
namespace Go.Av
open Go.Proofs
theorem cellsT33 : Try.prog.cellsOf 33 = 3 := by kernel_rfl
def turnS (x : PC) : Prop := ∃ (a : Int) (s : List UInt8) (us : List Int), x = .agg false [.int a, .str s, .sl (us.map PC.int)]
theorem rd33 : RdV Try.prog 33 turnS := by
  refine rv_struct Try.underlying33 ((rd_struct (Ss := [_, _, _]) Try.underlying33 (by rw [cellsT33]; simp [totF, cellsT3, cellsT9, cellsT23])
    ⟨rfl, (rd_int Try.underlying3).c, (by simp [cellsT3]), (rd_string Try.underlying9).c, (by simp [cellsT3, cellsT9]), rd_slice Try.underlying23 (by rw [cellsT3]; omega) (rd_int Try.underlying3), trivial⟩).mono ?_) ?_
  · rintro x ⟨ys, rfl, h⟩
    match ys, h with
    | [a, b, c], ⟨⟨n, ha, _⟩, ⟨s, hb, _⟩, ⟨vs, hc, _, hv⟩, _⟩ =>
      obtain ⟨vs', rfl⟩ := ints_of hv
      subst ha; subst hb; subst hc
      exact ⟨n, s, vs', rfl⟩
    | [], h => exact h.elim
    | [_], h => exact h.2.elim
    | [_, _], h => exact h.2.2.elim
    | _ :: _ :: _ :: _ :: _, h => exact h.2.2.2.elim
  · rintro x ⟨l, ks, vs, rfl⟩; exact ⟨_, rfl⟩
end Go.Av
