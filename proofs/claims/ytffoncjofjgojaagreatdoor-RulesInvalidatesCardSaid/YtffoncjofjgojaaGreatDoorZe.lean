/- What freshness computes from its parts: moments, ages, lifetimes. -/
import Derived.Test.YtffoncjofjgojaaGreatDoorZd
set_option linter.all false
/-! part Z89 -/
namespace Go.Av
open Go.Proofs
set_option maxRecDepth 100000

/-- where the first is; -1: nowhere -/
def idxV (vs : List Int) (v : Int) : Int := if v ∈ vs then (vs.idxOf v : Nat) else -1
theorem idxOf_at {A B : List Int} {v : Int} (h : v ∉ A) : (A ++ v :: B).idxOf v = A.length := by rw [List.idxOf_append, if_neg h]; simp
theorem index79 (vs : List Int) (v : Int) (hk : vs.length ≤ 1000000000) : PureC Tryz.prog 136 [.sl (vs.map PC.int), .int v] (.int (idxV vs v)) := by
  refine pure_of_aw (ys := [_]) [] [] [] mixed Tryz.func136 rfl (by kernel_rfl) (by kernel_rfl) (by simp [Tryz.ntmps136]) rfl ?_
  simp
  refine aw_loop0 (fun k : Nat => k ≤ vs.length ∧ v ∉ vs.take k) (fun k => [(0, .p (.sl (vs.map PC.int))), (1, .p (.int v)), (7, .p (.int vs.length)), (8, .p (.int k))]) (fun k => vs.length - k) 0 (by simp) (leN_id (by simp)) ?_
  rintro k ⟨h1, h2⟩
  by_cases c1 : k < vs.length
  · by_cases c2 : v = vs[k]
    · have e : idxV vs v = (k : Int) := by
        unfold idxV
        rw [if_pos (by rw [c2]; exact List.getElem_mem c1)]
        have hs : vs = vs.take k ++ v :: vs.drop (k + 1) := by rw [c2, ← List.drop_eq_getElem_cons c1, List.take_append_drop]
        have := idxOf_at (B := vs.drop (k + 1)) h2
        rw [← hs, List.length_take, Nat.min_eq_left h1] at this
        rw [this]
      have c2' : (v == vs[k]) = true := by simpa using c2
      simp [c1, c2', e, Tryz.results136]
    · have c2' : (v == vs[k]) = false := by simpa using c2
      simp [c1, c2']
      refine ⟨k + 1, ⟨by omega, ?_⟩, by omega, leN_id (by simp [wrap64_id (n := (k : Int) + 1) (by omega) (by omega)])⟩
      rw [List.take_succ_eq_append_getElem c1, List.mem_append, List.mem_singleton]
      rintro (h | h)
      · exact h2 h
      · exact c2 h
  · have e : k = vs.length := by omega
    subst e
    rw [List.take_length] at h2
    simp [idxV, h2, Tryz.results136]
theorem contains64 (vs : List Int) (v : Int) (hk : vs.length ≤ 1000000000) : PureC Tryz.prog 94 [.sl (vs.map PC.int), .int v] (.bool (decide (v ∈ vs))) := by
  refine pure_of_aw (ys := [_]) [] [] [] mixed Tryz.func94 rfl (by kernel_rfl) (by kernel_rfl) (by simp [Tryz.ntmps94]) rfl ?_
  simp
  refine pcall_of (index79 vs v hk) (by simp) ?_
  by_cases c : v ∈ vs
  · simp [idxV, c, Tryz.results94]
  · simp [idxV, c, Tryz.results94]
end Go.Av

/-! part Z90 -/
namespace Go.Av
open Go.Proofs
set_option maxRecDepth 100000

structure Msg where
  m : List UInt8
  t : List UInt8
  st : Int
  r : List UInt8
  mi : Int
  fs : List Fd
  body : List UInt8
@[reducible] def msgL (x : Msg) : List PC := [.str x.m, .str x.t, .int x.st, .str x.r, .int x.mi, .sl (x.fs.map fdP), .sl (bytesPC x.body)]
def oneB (fs : List Fd) (n : List UInt8) : List UInt8 × Bool := match getB fs n with | [v] => (v, true) | _ => ([], false)
theorem one70 (fs : List Fd) (n : List UInt8) (hf : FdOk fs) (hn : n.length ≤ 1000000) : PureC Tryz.prog 70 [.sl (fs.map fdP), .str n] (.tp [.str (oneB fs n).1, .bool (oneB fs n).2]) := by
  have hl := getB_len fs n
  have h1 := hf.1
  refine pure_of_aw (ys := [_, _]) [] [] [] mixed Tryz.func70 rfl (by kernel_rfl) (by kernel_rfl) (by simp [Tryz.ntmps70]) rfl ?_
  simp
  refine pcall_of (get107 fs n hf hn) (by simp) ?_
  unfold oneB
  generalize getB fs n = L at *
  match L, hl with
  | [], _ => simp [Tryz.results70]
  | [v], _ => simp [Tryz.results70]
  | a :: b :: L, hl =>
    have c : ((L.length : Int) + 1 + 1 == 1) = false := by simp; omega
    simp [c, Tryz.results70]
def clkI (n : Int) : Int := max 0 (min n 1099511627776)
def secI (n : Int) : Int := max 0 (min n 2147483647)
theorem clock84 (n : Int) : PureC Tryz.prog 84 [.int n] (.int (clkI n)) := by
  refine pure_of_aw (ys := [_]) [] [] [] mixed Tryz.func84 rfl (by kernel_rfl) (by kernel_rfl) (by simp [Tryz.ntmps84]) rfl ?_
  simp [clkI, Tryz.results84]; omega
theorem seconds86 (n : Int) : PureC Tryz.prog 86 [.int n] (.int (secI n)) := by
  refine pure_of_aw (ys := [_]) [] [] [] mixed Tryz.func86 rfl (by kernel_rfl) (by kernel_rfl) (by simp [Tryz.ntmps86]) rfl ?_
  simp [secI, Tryz.results86]; omega

structure Rsp where
  x : Msg
  c : Ctl
  a : Int
  g : Int
@[reducible] def rspL (r : Rsp) : List PC := msgL r.x ++ (ctlL r.c ++ [.int r.a, .int r.g])
def ccN : List UInt8 := [99, 97, 99, 104, 101, 45, 99, 111, 110, 116, 114, 111, 108]
def saysB (fs : List Fd) : Ctl := parseB (getB fs ccN)
def ofB (x : Msg) (a g : Int) : Rsp := ⟨x, saysB x.fs, clkI a, max (clkI g) (clkI a)⟩
theorem says_ctl (fs : List Fd) (hf : FdOk fs) : PureC Tryz.prog 83 [.sl ((getB fs ccN).map PC.str)] (.agg false (ctlL (saysB fs))) := by
  have hl := getB_len fs ccN
  have ht := getB_tot fs ccN
  have h1 := hf.1
  have h2 := hf.2.1
  exact parse26 _ (by omega) (by omega) (fun v hv => Nat.le_trans (totB_mem hv) (by omega))
set_option maxHeartbeats 1000000 in
theorem of49 (x : Msg) (a g : Int) (hf : FdOk x.fs) : PureC Tryz.prog 49 [.agg false (msgL x), .agg false [.int a, .int g]] (.agg false (rspL (ofB x a g))) := by
  obtain ⟨b0, b1, b2, b3, b4, b5, b6, i0, i1, i2, i3, hc⟩ : ∃ b0 b1 b2 b3 b4 b5 b6 i0 i1 i2 i3, saysB x.fs = ([b0, b1, b2, b3, b4, b5, b6], [i0, i1, i2, i3]) := by
    obtain ⟨h7, h4⟩ := parseB_len (getB x.fs ccN)
    exact ctl_ex h7 h4
  have hp := says_ctl x.fs hf
  rw [hc] at hp
  simp only [ctlL, List.map_cons, List.map_nil, List.cons_append, List.nil_append] at hp
  refine pure_of_awT (ys := [_]) [4, 5] [(2, [(4, .r 1), (7, .s 1 [])])] [(1, 1)] [(1, (.one 0 (.one 1 (.one 2 (.one 3 (.one 4 (.one 5 (.one 6 (.one 7 (.one 8 (.br 9 (.br 10 .lf .lf) .lf))))))))))) ] mixed Tryz.func49 rfl (by kernel_rfl) (by kernel_rfl) (by simp [Tryz.ntmps49]) rfl ?_
  simp [ofB, hc, ctlL]
  refine call_of (get107 x.fs ccN hf (by decide)) ?_
  simp
  refine call_of hp ?_
  simp
  refine call_of (clock84 a) ?_
  simp
  refine call_of (clock84 g) ?_
  simp [Tryz.results49]; omega

/-- a moment that a field tells: D is what is read of a text -/
def momB (D : List UInt8 → Int × Int) (fs : List Fd) (n : List UInt8) : Int × Bool := if (oneB fs n).2 = true then ((D (oneB fs n).1).1, (D (oneB fs n).1).2 == 0) else (0, false)
def DFor (D : List UInt8 → Int × Int) (fs : List Fd) (n : List UInt8) : Prop := (oneB fs n).2 = true → PureC Tryz.prog 117 [.str (oneB fs n).1] (.tp [.int (D (oneB fs n).1).1, .int (D (oneB fs n).1).2])
theorem rsp_flat (r : Rsp) (h7 : r.c.1.length = 7) (h4 : r.c.2.length = 4) : ∃ b0 b1 b2 b3 b4 b5 b6 i0 i1 i2 i3, r.c = ([b0, b1, b2, b3, b4, b5, b6], [i0, i1, i2, i3]) := ctl_ex h7 h4
theorem moment88 (D : List UInt8 → Int × Int) (r : Rsp) (h7 : r.c.1.length = 7) (h4 : r.c.2.length = 4) (n : List UInt8) (hf : FdOk r.x.fs) (hn : n.length ≤ 1000000) (hD : DFor D r.x.fs n) :
    PureC Tryz.prog 88 [.agg false (rspL r), .str n] (.tp [.int (momB D r.x.fs n).1, .bool (momB D r.x.fs n).2]) := by
  obtain ⟨b0, b1, b2, b3, b4, b5, b6, i0, i1, i2, i3, hc⟩ := rsp_flat r h7 h4
  refine pure_of_aw (ys := [_, _]) [] [] [] mixed Tryz.func88 rfl (by kernel_rfl) (by kernel_rfl) (by simp [Tryz.ntmps88]) rfl ?_
  simp [hc, ctlL]
  refine pcall_of (one70 r.x.fs n hf hn) (by simp) ?_
  unfold momB
  unfold DFor at hD
  generalize oneB r.x.fs n = q at *
  obtain ⟨v, ok⟩ := q
  cases ok with
  | false => simp [Tryz.results88]
  | true =>
    simp
    refine pcall_of (hD rfl) (by simp) ?_
    simp [Tryz.results88]
def datN : List UInt8 := [100, 97, 116, 101]
def dteB (D : List UInt8 → Int × Int) (fs : List Fd) (g : Int) : Int := if (momB D fs datN).2 = true then (momB D fs datN).1 else g
theorem date85 (D : List UInt8 → Int × Int) (r : Rsp) (h7 : r.c.1.length = 7) (h4 : r.c.2.length = 4) (hf : FdOk r.x.fs) (hD : DFor D r.x.fs datN) :
    PureC Tryz.prog 85 [.agg false (rspL r)] (.int (dteB D r.x.fs r.g)) := by
  have hm := moment88 D r h7 h4 datN hf (by decide) hD
  obtain ⟨b0, b1, b2, b3, b4, b5, b6, i0, i1, i2, i3, hc⟩ := rsp_flat r h7 h4
  simp only [hc, rspL, ctlL, List.map_cons, List.map_nil, List.cons_append, List.nil_append] at hm
  refine pure_of_aw (ys := [_]) [] [] [] mixed Tryz.func85 rfl (by kernel_rfl) (by kernel_rfl) (by simp [Tryz.ntmps85]) rfl ?_
  simp [hc, ctlL]
  refine pcall_of hm (by simp [datN]) ?_
  unfold dteB
  generalize momB D r.x.fs datN = q at *
  obtain ⟨v, ok⟩ := q
  cases ok <;> simp [Tryz.results85]
end Go.Av

/-! part Z91 -/
namespace Go.Av
open Go.Proofs
set_option maxRecDepth 100000
def heurL : List Int := [200, 203, 204, 300, 301, 308, 404, 405, 410, 414, 501]
theorem heur59 (n : Int) : PureC Tryz.prog 59 [.int n] (.bool (decide (n ∈ heurL))) := by
  refine pure_of_aw (ys := [_]) [] [] [] mixed Tryz.func59 rfl (by kernel_rfl) (by kernel_rfl) (by simp [Tryz.ntmps59]) rfl ?_
  have h := contains64 heurL n (by decide)
  simp only [heurL, List.map_cons, List.map_nil] at h
  simp
  refine pcall_of h (by simp) ?_
  simp [heurL, Tryz.results59]
structure DB (D : List UInt8 → Int × Int) : Prop where
  lo : ∀ v, 0 ≤ (D v).1
  hi : ∀ v, (D v).1 ≤ 253402300799
structure ROk (r : Rsp) : Prop where
  h7 : r.c.1.length = 7
  h4 : r.c.2.length = 4
  ints : IntsOk r.c
  a0 : 0 ≤ r.a
  a1 : r.a ≤ 1099511627776
  g0 : 0 ≤ r.g
  g1 : r.g ≤ 1099511627776
  ag : r.a ≤ r.g
  f : FdOk r.x.fs
theorem of_ok (x : Msg) (a g : Int) (hf : FdOk x.fs) : ROk (ofB x a g) := by
  have hl := parseB_len (getB x.fs ccN)
  have e1 : (ofB x a g).a = clkI a := rfl
  have e2 : (ofB x a g).g = max (clkI g) (clkI a) := rfl
  have h1 : ∀ n, 0 ≤ clkI n ∧ clkI n ≤ 1099511627776 := fun n => by unfold clkI; omega
  have ha := h1 a
  have hg := h1 g
  exact ⟨hl.1, hl.2, parse_ints _, by omega, by omega, by omega, by omega, by omega, hf⟩
theorem dte_b {D : List UInt8 → Int × Int} (hD : DB D) (fs : List Fd) {g : Int} (h0 : 0 ≤ g) (h1 : g ≤ 1099511627776) : 0 ≤ dteB D fs g ∧ dteB D fs g ≤ 1099511627776 := by
  unfold dteB momB
  split
  · have h2 := hD.lo (oneB fs datN).1
    have h3 := hD.hi (oneB fs datN).1
    split
    · exact ⟨h2, by omega⟩
    · exact ⟨by omega, by omega⟩
  · exact ⟨h0, h1⟩
def expN : List UInt8 := [101, 120, 112, 105, 114, 101, 115]
def lamN : List UInt8 := [108, 97, 115, 116, 45, 109, 111, 100, 105, 102, 105, 101, 100]
structure DFs (D : List UInt8 → Int × Int) (fs : List Fd) : Prop where
  dat : DFor D fs datN
  exp : DFor D fs expN
  lam : DFor D fs lamN
def lifeB (D : List UInt8 → Int × Int) (r : Rsp) : Int × Bool :=
  if 0 ≤ r.c.2.getD 1 0 then (r.c.2.getD 1 0, true)
  else if 0 ≤ r.c.2.getD 0 0 then (r.c.2.getD 0 0, true)
  else if getB r.x.fs expN ≠ [] then (if (momB D r.x.fs expN).2 = true then secI ((momB D r.x.fs expN).1 - dteB D r.x.fs r.g) else 0, true)
  else if (momB D r.x.fs lamN).2 = false ∨ r.x.st ∉ heurL ∨ dteB D r.x.fs r.g < (momB D r.x.fs lamN).1 then (0, false)
  else (secI ((dteB D r.x.fs r.g - (momB D r.x.fs lamN).1).tdiv 10), false)
theorem mom_b {D : List UInt8 → Int × Int} (hD : DB D) (fs : List Fd) (n : List UInt8) : 0 ≤ (momB D fs n).1 ∧ (momB D fs n).1 ≤ 253402300799 := by
  unfold momB
  split
  · exact ⟨hD.lo _, hD.hi _⟩
  · simp
set_option maxHeartbeats 1000000 in
theorem lifetime51 (D : List UInt8 → Int × Int) (hDb : DB D) (r : Rsp) (hr : ROk r) (hD : DFs D r.x.fs) : PureC Tryz.prog 51 [.agg false (rspL r)] (.tp [.int (lifeB D r).1, .bool (lifeB D r).2]) := by
  have hd := date85 D r hr.h7 hr.h4 hr.f hD.dat
  have he := moment88 D r hr.h7 hr.h4 expN hr.f (by decide) hD.exp
  have hm := moment88 D r hr.h7 hr.h4 lamN hr.f (by decide) hD.lam
  have hg := get107 r.x.fs expN hr.f (by decide)
  obtain ⟨d1, d2⟩ := dte_b hDb r.x.fs hr.g0 hr.g1
  obtain ⟨e1, e2⟩ := mom_b hDb r.x.fs expN
  obtain ⟨m1, m2⟩ := mom_b hDb r.x.fs lamN
  have hgl := getB_len r.x.fs expN
  have hfl := hr.f.1
  obtain ⟨b0, b1, b2, b3, b4, b5, b6, i0, i1, i2, i3, hc⟩ := rsp_flat r hr.h7 hr.h4
  simp only [hc, rspL, ctlL, List.map_cons, List.map_nil, List.cons_append, List.nil_append] at hd he hm
  refine pure_of_aw (ys := [_, _]) [] [] [] mixed Tryz.func51 rfl (by kernel_rfl) (by kernel_rfl) (by simp [Tryz.ntmps51]) rfl ?_
  unfold lifeB
  generalize dteB D r.x.fs r.g = d at *
  generalize momB D r.x.fs expN = E at *
  generalize momB D r.x.fs lamN = M at *
  generalize getB r.x.fs expN = L at *
  obtain ⟨ev, eo⟩ := E
  obtain ⟨mv, mo⟩ := M
  by_cases c1 : 0 ≤ i1
  · simp [hc, ctlL, c1, Tryz.results51]
  by_cases c2 : 0 ≤ i0
  · simp [hc, ctlL, c1, c2, Tryz.results51]
  simp [hc, ctlL, c1, c2]
  refine pcall_of hg (by simp [expN]) ?_
  cases L with
  | cons v L =>
    have c3 : (0 : Int) < (L.length : Int) + 1 := by omega
    simp [c3]
    refine pcall_of he (by simp [expN]) ?_
    cases eo with
    | false => simp [Tryz.results51]
    | true =>
      simp
      refine pcall_of hd (by simp) ?_
      simp
      simp (disch := omega) only [wrap64_id]
      refine pcall_of (seconds86 (ev - d)) (by simp) ?_
      simp [Tryz.results51]
  | nil =>
    simp
    refine pcall_of hm (by simp [lamN]) ?_
    cases mo with
    | false => simp [Tryz.results51]
    | true =>
      simp
      refine pcall_of (heur59 r.x.st) (by simp) ?_
      by_cases c4 : r.x.st ∈ heurL
      · simp [c4]
        refine pcall_of hd (by simp) ?_
        by_cases c5 : d < mv
        · simp [c5, Tryz.results51]
        · simp [c5]
          refine pcall_of hd (by simp) ?_
          simp
          have w1 : IntKind.i64.wrap ((d - mv).tdiv 10) = (d - mv).tdiv 10 := by
            rw [Int.tdiv_eq_ediv_of_nonneg (by omega)]; exact wrap64_id (by omega) (by omega)
          simp (disch := omega) only [wrap64_id, w1]
          refine pcall_of (seconds86 ((d - mv).tdiv 10)) (by simp) ?_
          simp [Tryz.results51]
      · simp [c4, Tryz.results51]
end Go.Av

/-! part Z92 -/
namespace Go.Av
open Go.Proofs
set_option maxRecDepth 100000
theorem Lifetime57 (D : List UInt8 → Int × Int) (hDb : DB D) (x : Msg) (a g : Int) (hf : FdOk x.fs) (hD : DFs D x.fs) : PureC Tryz.prog 57 [.agg false (msgL x), .agg false [.int a, .int g]] (.tp [.int (lifeB D (ofB x a g)).1, .bool (lifeB D (ofB x a g)).2]) := by
  have h1 := of49 x a g hf
  have hk := of_ok x a g hf
  have h3 := lifetime51 D hDb (ofB x a g) hk hD
  generalize ofB x a g = r at *
  obtain ⟨b0, b1, b2, b3, b4, b5, b6, i0, i1, i2, i3, hc⟩ := rsp_flat r hk.h7 hk.h4
  simp only [hc, rspL, ctlL, List.map_cons, List.map_nil, List.cons_append, List.nil_append] at h1 h3
  refine pure_of_aw (ys := [_, _]) [] [] [] mixed Tryz.func57 rfl (by kernel_rfl) (by kernel_rfl) (by simp [Tryz.ntmps57]) rfl ?_
  generalize lifeB D r = L at *
  obtain ⟨n, ok⟩ := L
  simp
  refine pcall_of h1 (by simp) ?_
  simp
  refine pcall_of h3 (by simp) ?_
  simp [Tryz.results57]
end Go.Av
