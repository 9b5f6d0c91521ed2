/- What the law's store and the document's rows of items compute. -/
import Derived.Test.YtfonhoahpmjjbaaFb
set_option linter.all false
/-! part W13 -/
namespace Go.Av
open Go.Proofs Go.Tre
set_option maxRecDepth 100000

@[reducible] def ndP (n : Nd) : PC := nodeP n.lf n.ks n.vs
@[reducible] def itP (x : Key × Int) : PC := .agg false [.str x.1, .int x.2]
@[reducible] def itsP (l : Its) : PC := .sl (l.map itP)
structure ItsOk (l : Its) : Prop where
  len : l.length ≤ 1000000000
  keys : ∀ x ∈ l, x.1.length ≤ 1000000

theorem right28 (key : Key) (v : Int) : PureC Try.prog 28 [.str key, .int v] (.bool (keyB key v)) := by
  refine pure_of_aw (ys := [_]) [] [] [] mixed Try.func28 rfl (by kernel_rfl) (by kernel_rfl) (by simp [Try.ntmps28]) rfl ?_
  by_cases c1 : key = []
  · subst c1; simp [keyB, Try.results28]
  have h1 : 1 ≤ key.length := by cases key with | nil => exact absurd rfl c1 | cons => simp
  have hne : (key != []) = true := by simpa using c1
  by_cases c2 : key.length ≤ 100
  · have c2' : (key.length : Int) ≤ 100 := by omega
    by_cases c3 : 0 ≤ v
    · by_cases c4 : v ≤ 1099511627775
      · have c4' : v < 1099511627776 := by omega
        simp [hne, c1, c2, c2', c3, c4, c4', h1, keyB, Try.results28]
      · have c4' : ¬ v < 1099511627776 := by omega
        simp [hne, c1, c2, c2', c3, c4, c4', h1, keyB, Try.results28]
    · simp [hne, c1, c2, c2', c3, h1, keyB, Try.results28]
  · have c2' : ¬ (key.length : Int) ≤ 100 := by omega
    simp [hne, c1, c2, c2', h1, keyB, Try.results28]

theorem few36 (n : Nd) : PureC Try.prog 36 [ndP n] (.bool (fewN n)) := by
  refine pure_of_aw (ys := [_]) [] [] [] mixed Try.func36 rfl (by kernel_rfl) (by kernel_rfl) (by simp [Try.ntmps36]) rfl ?_
  by_cases c : n.lf = true
  · simp [c, fewN, Try.results36]; omega
  · have c' : n.lf = false := by simpa using c
    obtain ⟨lf, ks, vs⟩ := n
    simp only at c'
    subst c'
    cases ks with
    | nil => simp [fewN, Try.results36]
    | cons k ks =>
      have : ¬ ((ks.length : Int) + 1 < 1) := by omega
      simp [fewN, this, Try.results36]

theorem fits81 (k lo : Key) (hi : Option Key) : PureC Try.prog 81 [.str k, .ref (.str lo), .ref (.bool hi.isSome), .ref (.str (hi.getD []))] (.bool (!(!Op.bytesLess k lo && (match hi with | some h => Op.bytesLess k h | none => true)))) := by
  refine pure_of_aw (ys := [_]) [] [] [] mixed Try.func81 rfl (by kernel_rfl) (by kernel_rfl) (by simp [Try.ntmps81]) rfl ?_
  by_cases c1 : Op.bytesLess k lo = true
  · simp [c1, Try.results81]
  have c1' : Op.bytesLess k lo = false := by simpa using c1
  cases hi with
  | none => simp [c1', Try.results81]
  | some h => simp [c1', Try.results81]
theorem fits65 (n : Nd) (lo : Key) (hi : Option Key) (hk : n.ks.length ≤ 9223372036854775807) : PureC Try.prog 65 [ndP n, .str lo, .str (hi.getD []), .bool hi.isSome] (.bool (fitB n lo hi)) := by
  refine pure_of_aw (ys := [_]) [] [] [] mixed Try.func65 rfl (by kernel_rfl) (by kernel_rfl) (by simp [Try.ntmps65]) rfl ?_
  simp
  refine pcall_of (contains47 _ n.ks hk fun s _ => fits81 s lo hi) (by simp) ?_
  simp [Try.results65, fitB, List.all_eq_not_any_not]
  cases hi <;> rfl

theorem place35 (l : Its) (key : Key) (hl : ItsOk l) (hk : key.length ≤ 1000000) : PureC Try.prog 35 [itsP l, .str key] (.tp [.int (place l key : Nat), .bool (found l key)]) := by
  have hlen := hl.len
  refine pure_of_aw (ys := [_, _]) [] [] [] mixed Try.func35 rfl (by kernel_rfl) (by kernel_rfl) (by simp [Try.ntmps35]) rfl ?_
  simp
  refine aw_loop0 (fun k : Nat => k ≤ l.length ∧ k ≤ place l key ∧ ∀ x ∈ l.take k, Op.bytesLess x.1 key = true) (fun k => [(0, .p (itsP l)), (1, .p (.str key)), (6, .p (.int k))]) (fun k => l.length - k) 0 (by simp) (leN_id (by simp)) ?_
  rintro k ⟨h1, h2, h3⟩
  obtain ⟨p1, p2⟩ := tw_spec (fun x : Key × Int => Op.bytesLess x.1 key) l
  change (∀ x ∈ l.take (place l key), _) at p1
  change (∀ h : place l key < l.length, Op.bytesLess l[place l key].1 key = false) at p2
  have eqk : ∀ h : k < l.length, Op.bytesLess l[k].1 key = false → place l key = k := fun h hb => by
    rcases Nat.lt_or_ge k (place l key) with h4 | h4
    · have := p1 _ (take_get h4 h); rw [hb] at this; cases this
    · omega
  by_cases c1 : k < l.length
  · have hkl := hl.keys l[k] (List.getElem_mem c1)
    simp [c1]
    refine pcall_of (less_p l[k].1 key (by omega) (by omega)) (by simp) ?_
    by_cases c2 : Op.bytesLess l[k].1 key = true
    · simp [c2]
      refine ⟨k + 1, ⟨by omega, ?_, ?_⟩, by omega, leN_id (by simp [wrap64_id (n := (k : Int) + 1) (by omega) (by omega)])⟩
      · rcases Nat.lt_or_ge k (place l key) with h4 | h4
        · omega
        · exfalso
          have e : place l key = k := by omega
          have := p2 (by omega)
          simp only [e] at this
          rw [c2] at this; cases this
      · intro a b hx
        rw [List.take_succ_eq_append_getElem c1] at hx
        rcases List.mem_append.1 hx with hx | hx
        · exact h3 (a, b) hx
        · simp only [List.mem_singleton] at hx; rw [← hx] at c2; exact c2
    · have c2' : Op.bytesLess l[k].1 key = false := by simpa using c2
      have e := eqk c1 c2'
      simp [c2', c1, e, found, Try.results35]
  · have e : place l key = k := by have := place_le l key; omega
    have c3 : l.length ≤ k := by omega
    simp [c1, c3, e, found, Try.results35]

theorem its_w {l : Its} : ∀ x ∈ l.map itP, x.width = 2 := by
  intro x h; obtain ⟨y, _, rfl⟩ := List.mem_map.1 h; rfl
theorem its_t {l : Its} : ∀ x ∈ l.map itP, noTup x = true := by
  intro x h; obtain ⟨y, _, rfl⟩ := List.mem_map.1 h; rfl
theorem take_w {l : Its} {i : Nat} : ∀ x ∈ List.take i (l.map itP), x.width = 2 := fun x h => its_w x (List.mem_of_mem_take h)
theorem drop_w {l : Its} {i : Nat} : ∀ x ∈ List.drop i (l.map itP), x.width = 2 := fun x h => its_w x (List.mem_of_mem_drop h)

theorem its_w1 {l : Its} : ∀ (y : PC) (x : Key) (v : Int), (x, v) ∈ l → itP (x, v) = y → 2 = y.width := by rintro y x v _ rfl; rfl
theorem its_w2 {l : Its} {i : Nat} {key : Key} {v : Int} : ∀ (x : PC), x ∈ List.take i (l.map itP) ∨ x = PC.agg false [PC.str key, PC.int v] → x.width = 2 := by
  rintro x (h | rfl)
  · exact take_w x h
  · rfl

set_option maxHeartbeats 1000000 in
theorem rput12 (l : Its) (key : Key) (v : Int) (hl : ItsOk l) (hk : key.length ≤ 1000000) : PureC Try.prog 12 [itsP l, .str key, .int v] (.tp [itsP (rput l key v), .int (rget l key).1, .bool (rget l key).2]) := by
  have hlen := hl.len
  have hpl := place_le l key
  refine pure_of_aw (ys := [_, _, _]) [] [(6, [(5, .f [])])] [] mixed Try.func12 rfl (by kernel_rfl) (by kernel_rfl) (by simp [Try.ntmps12]) rfl ?_
  simp
  refine pcall_of (place35 l key hl hk) (by simp) ?_
  by_cases c : found l key = true
  · have hlt := found_lt c
    have w1 : IntKind.i64.wrap ((place l key : Int) + 1) = ((place l key + 1 : Nat) : Int) := by rw [wrap64_id (by omega) (by omega)]; rfl
    have hv : valAt l key = l[place l key].2 := by unfold valAt; rw [List.getElem?_eq_getElem hlt]
    simp [c, w1, hlt, hpl, rget, rput, hv, Try.results12]
    exact ⟨its_w1, take_w, by omega, by omega, take_w, by omega, by omega, its_w1, by omega, by omega, its_w2, drop_w, by omega, by omega⟩
  · have c' : found l key = false := by simpa using c
    simp [c', hpl, rget, rput, Try.results12]
    exact ⟨its_w1, take_w, by omega, by omega, take_w, by omega, by omega, its_w1, its_w2, drop_w, by omega, by omega⟩

set_option maxHeartbeats 1000000 in
theorem rdel14 (l : Its) (key : Key) (hl : ItsOk l) (hk : key.length ≤ 1000000) : PureC Try.prog 14 [itsP l, .str key] (.tp [itsP (rdel l key), .int (rget l key).1, .bool (rget l key).2]) := by
  have hlen := hl.len
  have hpl := place_le l key
  refine pure_of_aw (ys := [_, _, _]) [] [(6, [(5, .f [])])] [] mixed Try.func14 rfl (by kernel_rfl) (by kernel_rfl) (by simp [Try.ntmps14]) rfl ?_
  simp
  refine pcall_of (place35 l key hl hk) (by simp) ?_
  by_cases c : found l key = true
  · have hlt := found_lt c
    have w1 : IntKind.i64.wrap ((place l key : Int) + 1) = ((place l key + 1 : Nat) : Int) := by rw [wrap64_id (by omega) (by omega)]; rfl
    have hv : valAt l key = l[place l key].2 := by unfold valAt; rw [List.getElem?_eq_getElem hlt]
    simp [c, w1, hlt, hpl, rget, rdel, hv, Try.results14]
    exact ⟨its_w1, take_w, by omega, by omega, its_w1, by omega, by omega, take_w, drop_w, by omega, by omega⟩
  · have c' : found l key = false := by simpa using c
    simp [c', rget, rdel, Try.results14]

theorem rget23 (l : Its) (key : Key) (hl : ItsOk l) (hk : key.length ≤ 1000000) : PureC Try.prog 23 [itsP l, .str key] (.tp [.int (rget l key).1, .bool (rget l key).2]) := by
  have hlen := hl.len
  refine pure_of_aw (ys := [_, _]) [] [] [] mixed Try.func23 rfl (by kernel_rfl) (by kernel_rfl) (by simp [Try.ntmps23]) rfl ?_
  simp
  refine pcall_of (place35 l key hl hk) (by simp) ?_
  by_cases c : found l key = true
  · have hlt := found_lt c
    have hv : valAt l key = l[place l key].2 := by unfold valAt; rw [List.getElem?_eq_getElem hlt]
    simp [c, hlt, rget, hv, Try.results23]
  · have c' : found l key = false := by simpa using c
    simp [c', rget, Try.results23]

set_option maxHeartbeats 1000000 in
theorem rscan24 (l : Its) (frm : Key) (most : Int) (hl : ItsOk l) (hk : frm.length ≤ 1000000) : PureC Try.prog 24 [itsP l, .str frm, .int most] (itsP (rscan l frm most)) := by
  have hlen := hl.len
  have hpl := place_le l frm
  refine pure_of_aw (ys := [_]) [] [] [] mixed Try.func24 rfl (by kernel_rfl) (by kernel_rfl) (by simp [Try.ntmps24]) rfl ?_
  simp
  refine pcall_of (place35 l frm hl hk) (by simp) ?_
  simp
  refine aw_loop (fun y : Nat × Its => place l frm ≤ y.1 ∧ y.1 ≤ l.length ∧ y.2 = (l.drop (place l frm)).take (y.1 - place l frm) ∧ (y.1 = place l frm ∨ y.1 - place l frm ≤ most.toNat))
    (fun y => [(0, .p (itsP l)), (2, .p (.int most)), (7, .p (.int y.1)), (9, .own 0 (y.2.map itP))]) (fun y => ⟨[], [(0, 69, 2)], 1⟩) (fun y => l.length - y.1) (place l frm, []) ⟨by simp, hpl, by simp, .inl rfl⟩ _
    (le_own 9 69 2 [] (.inr ⟨rfl, by simp⟩)) (leN_id (by simp)) ?_
  rintro ⟨i, out⟩ ⟨h1, h2, h3, h4⟩
  simp only at h1 h2 h3 h4
  have ol : out.length = i - place l frm := by rw [h3]; simp; omega
  by_cases c1 : i < l.length
  · by_cases c2 : (out.length : Int) < most
    · have w1 : IntKind.i64.wrap ((i : Int) + 1) = ((i + 1 : Nat) : Int) := by rw [wrap64_id (by omega) (by omega)]; rfl
      simp [c1, c2, w1]
      refine ⟨by rintro x a b _ rfl; rfl, by omega, by omega, i + 1, out ++ [l[i]], ⟨by omega, by omega, ?_, by omega⟩, by omega, leN_of [(0, 1)] (by simp)⟩
      rw [h3, show i + 1 - place l frm = (i - place l frm) + 1 by omega, List.take_succ_eq_append_getElem (by simp; omega)]
      simp [show place l frm + (i - place l frm) = i by omega]
    · simp [c1, c2, Try.results24]
      rw [h3]
      unfold rscan
      congr 1
      rcases h4 with h4 | h4
      · subst h4; simp; left; simp at ol; rw [ol] at c2; simp at c2; omega
      · rw [show most.toNat = i - place l frm by omega]
  · simp [c1, Try.results24]
    rw [h3]
    unfold rscan
    have e : i = l.length := by omega
    subst e
    rcases h4 with h4 | h4
    · simp [← h4]
    · rw [List.take_of_length_le (by simp; omega), List.take_of_length_le (by simp)]

theorem same16 (a b : Its) (ha : ItsOk a) (hb : ItsOk b) : PureC Try.prog 16 [itsP a, itsP b] (.bool (a == b)) := by
  have la := ha.len
  have lb := hb.len
  refine pure_of_aw (ys := [_]) [] [] [] mixed Try.func16 rfl (by kernel_rfl) (by kernel_rfl) (by simp [Try.ntmps16]) rfl ?_
  by_cases c0 : a.length = b.length
  · have c0' : ((a.length : Int) != (b.length : Int)) = false := by rw [c0]; simp
    simp [c0']
    refine aw_loop0 (fun k : Nat => k ≤ a.length ∧ a.take k = b.take k) (fun k => [(0, .p (itsP a)), (1, .p (itsP b)), (5, .p (.int k))]) (fun k => a.length - k) 0 (by simp) (leN_id (by simp)) ?_
    rintro k ⟨h1, h2⟩
    by_cases c1 : k < a.length
    · have c1' : k < b.length := by omega
      have w1 : IntKind.i64.wrap ((k : Int) + 1) = ((k + 1 : Nat) : Int) := by rw [wrap64_id (by omega) (by omega)]; rfl
      by_cases c2 : a[k] = b[k]
      · simp [c1, c1', c2, w1]
        exact ⟨k + 1, ⟨by omega, by rw [List.take_succ_eq_append_getElem c1, List.take_succ_eq_append_getElem c1', h2, c2]⟩, by omega, leN_id (by simp)⟩
      · have hbb : (!a[k].1 == b[k].1 || !a[k].2 == b[k].2) = true := by
          have : ¬ (a[k].1 = b[k].1 ∧ a[k].2 = b[k].2) := fun h => c2 (Prod.ext h.1 h.2)
          simp only [Bool.or_eq_true, Bool.not_eq_true', beq_eq_false_iff_ne, ne_eq]
          by_cases e : a[k].1 = b[k].1
          · exact .inr fun h => this ⟨e, h⟩
          · exact .inl e
        have hne : (a == b) = false := by
          simp only [beq_eq_false_iff_ne, ne_eq]; intro e; subst e; exact c2 rfl
        simp [c1, c1', hbb, hne, Try.results16]
    · have e : k = a.length := by omega
      subst e
      have : a = b := by rw [List.take_length, c0, List.take_length] at h2; exact h2
      simp [this, Try.results16]
  · have c0' : ((a.length : Int) != (b.length : Int)) = true := by simp; omega
    have : (a == b) = false := by simp; intro e; exact c0 (by rw [e])
    simp [c0', this, Try.results16]

/-- where the first is; -1: nowhere -/
def idxV (vs : List Int) (v : Int) : Int := if v ∈ vs then (vs.idxOf v : Nat) else -1
theorem idxOf_at {A B : List Int} {v : Int} (h : v ∉ A) : (A ++ v :: B).idxOf v = A.length := by rw [List.idxOf_append, if_neg h]; simp
theorem index79 (vs : List Int) (v : Int) (hk : vs.length ≤ 1000000000) : PureC Try.prog 79 [.sl (vs.map PC.int), .int v] (.int (idxV vs v)) := by
  refine pure_of_aw (ys := [_]) [] [] [] mixed Try.func79 rfl (by kernel_rfl) (by kernel_rfl) (by simp [Try.ntmps79]) rfl ?_
  simp
  refine aw_loop0 (fun k : Nat => k ≤ vs.length ∧ v ∉ vs.take k) (fun k => [(0, .p (.sl (vs.map PC.int))), (1, .p (.int v)), (7, .p (.int vs.length)), (8, .p (.int k))]) (fun k => vs.length - k) 0 (by simp) (leN_id (by simp)) ?_
  rintro k ⟨h1, h2⟩
  by_cases c1 : k < vs.length
  · by_cases c2 : v = vs[k]
    · have e : idxV vs v = (k : Int) := by
        unfold idxV
        rw [if_pos (by rw [c2]; exact List.getElem_mem c1)]
        have hs : vs = vs.take k ++ v :: vs.drop (k + 1) := by rw [c2, ← List.drop_eq_getElem_cons c1, List.take_append_drop]
        have := idxOf_at (B := vs.drop (k + 1)) h2
        rw [← hs, List.length_take, Nat.min_eq_left h1] at this
        rw [this]
      have c2' : (v == vs[k]) = true := by simpa using c2
      simp [c1, c2', e, Try.results79]
    · have c2' : (v == vs[k]) = false := by simpa using c2
      simp [c1, c2']
      refine ⟨k + 1, ⟨by omega, ?_⟩, by omega, leN_id (by simp [wrap64_id (n := (k : Int) + 1) (by omega) (by omega)])⟩
      rw [List.take_succ_eq_append_getElem c1, List.mem_append, List.mem_singleton]
      rintro (h | h)
      · exact h2 h
      · exact c2 h
  · have e : k = vs.length := by omega
    subst e
    rw [List.take_length] at h2
    simp [idxV, h2, Try.results79]
theorem contains64 (vs : List Int) (v : Int) (hk : vs.length ≤ 1000000000) : PureC Try.prog 64 [.sl (vs.map PC.int), .int v] (.bool (decide (v ∈ vs))) := by
  refine pure_of_aw (ys := [_]) [] [] [] mixed Try.func64 rfl (by kernel_rfl) (by kernel_rfl) (by simp [Try.ntmps64]) rfl ?_
  simp
  refine pcall_of (index79 vs v hk) (by simp) ?_
  by_cases c : v ∈ vs
  · simp [idxV, c, Try.results64]
  · simp [idxV, c, Try.results64]

theorem once21 (vs : List Int) (hk : vs.length ≤ 1000000000) : PureC Try.prog 21 [.sl (vs.map PC.int)] (.bool (onceB vs)) := by
  refine pure_of_aw (ys := [_]) [] [] [] mixed Try.func21 rfl (by kernel_rfl) (by kernel_rfl) (by simp [Try.ntmps21]) rfl ?_
  simp
  refine aw_loop0 (fun i : Nat => i ≤ vs.length ∧ (vs.take i).Nodup) (fun i => [(0, .p (.sl (vs.map PC.int))), (3, .p (.int i))]) (fun i => vs.length - i) 0 (by simp) (leN_id (by simp)) ?_
  rintro i ⟨h1, h2⟩
  by_cases c1 : i < vs.length
  · simp [c1]
    refine aw_loop0 (fun k : Nat => k ≤ i ∧ vs[i] ∉ vs.take k) (fun k => [(0, .p (.sl (vs.map PC.int))), (3, .p (.int i)), (4, .p (.int k))]) (fun k => i - k) 0 (by simp) (leN_id (by simp)) ?_
    rintro k ⟨h3, h4⟩
    by_cases c2 : k < i
    · have c2' : k < vs.length := by omega
      by_cases c3 : vs[i] = vs[k]
      · have hn : onceB vs = false := by
          unfold onceB
          simp only [decide_eq_false_iff_not]
          intro hnd
          have := (List.pairwise_iff_getElem.1 hnd) k i c2' c1 c2
          exact this c3.symm
        have c3' : (vs[i] == vs[k]) = true := by simpa using c3
        simp [c1, c2, c2', c3', hn, Try.results21]
      · have c3' : (vs[i] == vs[k]) = false := by simpa using c3
        simp [c1, c2, c2', c3']
        refine ⟨k + 1, ⟨by omega, ?_⟩, by omega, leN_id (by simp [wrap64_id (n := (k : Int) + 1) (by omega) (by omega)])⟩
        rw [List.take_succ_eq_append_getElem c2', List.mem_append, List.mem_singleton]
        rintro (h | h)
        · exact h4 h
        · exact c3 h
    · have e : k = i := by omega
      subst e
      simp [wrap64_id (n := (k : Int) + 1) (by omega) (by omega)]
      refine ⟨k + 1, ⟨by omega, ?_⟩, by omega, leN_id (by simp)⟩
      rw [List.take_succ_eq_append_getElem c1]
      refine List.nodup_append.2 ⟨h2, by simp, fun a ha b hb e => ?_⟩
      rw [List.mem_singleton] at hb; subst hb; subst e; exact h4 ha
  · have e : i = vs.length := by omega
    subst e
    rw [List.take_length] at h2
    simp [onceB, h2, Try.results21]
end Go.Av

/-! part W12 -/
namespace Go.Av
open Go.Proofs Go.Tre
set_option maxRecDepth 100000

@[reducible] def stoO (r w : Nat) (S : Sto) : Ob := ⟨30, 4, [.own r (S.nd.map ndP), .view w 0 S.th.length 1 none, .p (.int S.sv), .p (.int S.fl)]⟩
@[reducible] def thO (S : Sto) : Ob := ⟨4, 1, (S.th.map PC.bool).map .p⟩
/-- a store: its object, its rows -/
@[reducible] def stB (s r w : Nat) (S : Sto) : List (Nat × Ob) := [(s, stoO r w S), (w, thO S)]
@[reducible] def stR (r : Nat) : List (Nat × TypeId × Nat) := [(r, 56, 3)]
structure Ids3 (s r w nx : Nat) : Prop where
  hs : s < nx
  hr : r < nx
  hw : w < nx
  sr : s ≠ r
  sw : s ≠ w
  rw : r ≠ w
theorem Ids3.up {s r w nx m : Nat} (h : Ids3 s r w nx) (hm : nx ≤ m) : Ids3 s r w m := ⟨by have := h.hs; omega, by have := h.hr; omega, by have := h.hw; omega, h.sr, h.sw, h.rw⟩
/-- of a size that nobody minds -/
structure SOk (S : Sto) : Prop where
  wf : S.Wf
  len : S.nd.length ≤ 1000000000
  nds : ∀ n ∈ S.nd, n.ks.length ≤ 1000 ∧ n.vs.length ≤ 1000 ∧ ∀ k ∈ n.ks, k.length ≤ 1000000
  sv : -1000000000 ≤ S.sv ∧ S.sv ≤ 1000000000

theorem methL : methF Try.prog 24 "Load" = some 110 := by kernel_rfl
theorem methS : methF Try.prog 24 "Save" = some 111 := by kernel_rfl
theorem methD : methF Try.prog 24 "Drop" = some 109 := by kernel_rfl

def gN (o : Option Nd) : Nd := o.getD nd0

set_option maxHeartbeats 1000000 in
theorem node41 (s r w nx : Nat) (h : Ids3 s r w nx) (S : Sto) (hS : SOk S) (p : Int) (hp : -9223372036854775808 ≤ p ∧ p ≤ 9223372036854775807) :
    GenC Try.prog 41 [.obj s 0, .p (.int p)] ⟨stB s r w S, stR r, nx⟩ (.agg true [.p (ndP (gN (S.get p))), .p (.bool (S.get p).isSome)]) ⟨stB s r w S, stR r, nx⟩ := by
  obtain ⟨hs, hr, hw, sr, sw, rw_⟩ := h
  have e_sw : ¬ s = w := by omega
  have e_ws : ¬ w = s := by omega
  have l_s0 : s < nx := by omega
  have g_s0 : ¬ s = nx := by omega
  have f_s0 : ¬ nx = s := by omega
  have g_s1 : ¬ s = nx + 1 := by omega
  have f_s1 : ¬ nx + 1 = s := by omega
  have l_r0 : r < nx := by omega
  have g_r2 : ¬ r = nx + 2 := by omega
  have g_r3 : ¬ r = nx + 3 := by omega
  have l_w0 : w < nx := by omega
  have g_w0 : ¬ w = nx := by omega
  have f_w0 : ¬ nx = w := by omega
  have g_w1 : ¬ w = nx + 1 := by omega
  have f_w1 : ¬ nx + 1 = w := by omega
  have hwf : S.th.length = S.nd.length := hS.wf
  have hlen := hS.len
  refine gen_of_aw (rs := [_, _]) [] [(4, [(1, .r 2), (4, .r 2), (5, .f [1, 2]), (8, .r 2), (9, .f [1, 2]), (11, .s 1 [2])])] [(1, nx), (2, nx + 1)] mixed Try.func41 rfl (by kernel_rfl) (by kernel_rfl) (by simp [Try.ntmps41]) rfl ?_
  by_cases c1 : p < 1
  · have hg : S.get p = none := by unfold Sto.get; rw [if_neg (by omega)]
    simp [c1, hg, gN, nd0, Try.results41, stB, stR, stoO, thO, e_sw, l_s0, f_s0, l_r0, l_w0, f_w0]
    exact ⟨[], by simp [e_sw, e_ws, g_s0, g_w0]⟩
  obtain ⟨k, rfl⟩ : ∃ k : Nat, p = ((k + 1 : Nat) : Int) := ⟨p.toNat - 1, by omega⟩
  have w1 : IntKind.i64.wrap (((k + 1 : Nat) : Int) - 1) = (k : Int) := by rw [wrap64_id (by omega) (by omega)]; omega
  have w1' : IntKind.i64.wrap ((k : Int) + 1 - 1) = (k : Int) := by rw [wrap64_id (by omega) (by omega)]; omega
  have w2 : IntKind.i64.wrap (k : Int) = (k : Int) := wrap64_id (by omega) (by omega)
  have c1' : ¬ ((k : Int) + 1 < 1) := by omega
  by_cases c2 : S.nd.length < k + 1
  · have hg : S.get ((k + 1 : Nat) : Int) = none := by unfold Sto.get; rw [if_neg (by omega)]
    have hg' : S.get ((k : Int) + 1) = none := hg
    have c2' : (S.nd.length : Int) < (k : Int) + 1 := by omega
    simp [c1', c2', hg', gN, nd0, Try.results41, stB, stR, stoO, thO, e_sw, l_s0, g_s0, f_s0, l_r0, l_w0, f_w0]
    exact ⟨[], by simp [e_sw, e_ws, g_s0, g_w0]⟩
  have c2' : ¬ (S.nd.length : Int) < (k : Int) + 1 := by omega
  have hk : k < S.nd.length := by omega
  have hk2 : k < S.th.length := by omega
  have e0 : ((k + 1 : Nat) : Int).toNat - 1 = k := by omega
  by_cases c3 : S.th[k] = true
  · have hg : S.get ((k + 1 : Nat) : Int) = some S.nd[k] := by
      unfold Sto.get; rw [e0, if_pos ⟨by omega, by omega, by simp [hk2, c3]⟩]; simp [hk]
    have hg' : S.get ((k : Int) + 1) = some S.nd[k] := hg
    obtain ⟨n1, n2, _⟩ := hS.nds S.nd[k] (List.getElem_mem hk)
    simp [c1', c2', w2, hk, hk2, c3, hg', gN, Try.results41, stB, stR, stoO, thO, e_sw, e_ws, l_s0, g_s0, f_s0, f_s1, l_r0, l_w0, g_w0, f_w0, f_w1]
    exact ⟨by omega, by omega, by omega, by omega, [], by simp [e_sw, e_ws, g_s0, g_s1, g_r2, g_r3, g_w0, g_w1]⟩
  · have hg : S.get ((k + 1 : Nat) : Int) = none := by
      unfold Sto.get; rw [e0, if_neg (by simp [hk2, c3])]
    have hg' : S.get ((k : Int) + 1) = none := hg
    have c3' : S.th[k] = false := by simpa using c3
    simp [c1', c2', w2, hk2, c3', hg', gN, nd0, Try.results41, stB, stR, stoO, thO, e_sw, e_ws, l_s0, g_s0, f_s0, l_r0, l_w0, g_w0, f_w0]
    exact ⟨[], by simp [e_sw, e_ws, g_s0, g_w0]⟩

def _root_.Go.Tre.Sto.app (S : Sto) (n : Nd) : Sto := ⟨S.nd ++ [n], S.th ++ [true], S.sv, S.fl⟩
set_option maxHeartbeats 1000000 in
theorem add20 (s r w nx : Nat) (h : Ids3 s r w nx) (S : Sto) (hwf : S.th.length = S.nd.length) (hlen : S.nd.length ≤ 1000000000) (n : Nd) (hn : n.ks.length ≤ 1000 ∧ n.vs.length ≤ 1000) :
    GenC Try.prog 20 [.obj s 0, .p (ndP n)] ⟨stB s r w S, stR r, nx⟩ (.p (.int (S.nd.length + 1 : Nat))) ⟨stB s nx (nx + 1) (S.app n), stR nx, nx + 2⟩ := by
  obtain ⟨hs, hr, hw, sr, sw, rw_⟩ := h
  have e_sw : ¬ s = w := by omega
  have e_ws : ¬ w = s := by omega
  have g_s0 : ¬ s = nx := by omega
  have f_s0 : ¬ nx = s := by omega
  have g_s1 : ¬ s = nx + 1 := by omega
  have f_s1 : ¬ nx + 1 = s := by omega
  have l_s2 : s < nx + 2 := by omega
  have g_s2 : ¬ s = nx + 2 := by omega
  have f_s2 : ¬ nx + 2 = s := by omega
  have g_s4 : ¬ s = nx + 4 := by omega
  have f_s4 : ¬ nx + 4 = s := by omega
  have g_r0 : ¬ r = nx := by omega
  have g_r1 : ¬ r = nx + 1 := by omega
  have g_r2 : ¬ r = nx + 2 := by omega
  have g_w0 : ¬ w = nx := by omega
  have f_w0 : ¬ nx = w := by omega
  have g_w1 : ¬ w = nx + 1 := by omega
  have f_w1 : ¬ nx + 1 = w := by omega
  have g_w2 : ¬ w = nx + 2 := by omega
  have f_w2 : ¬ nx + 2 = w := by omega
  refine gen_of_awT (rs := [_]) [] [] [] [(1, (.one 0 (.one 1 (.one 2 (.one 3 (.one 4 (.one 6 (.one 7 (.one 8 (.br 5 (.br 9 (.one 10 (.br 11 (.br 12 .lf .lf) .lf)) (.br 11 (.br 9 (.one 10 (.br 12 .lf .lf)) .lf) .lf)) (.br 11 (.br 5 (.br 9 (.one 10 (.br 12 .lf .lf)) .lf) .lf) .lf))))))))))), (2, (.one 0 (.one 1 (.one 2 (.one 3 (.br 4 (.br 5 (.one 6 (.br 7 (.one 8 (.one 9 (.br 10 .lf .lf))) .lf)) .lf) (.br 5 (.one 6 (.br 4 (.br 7 (.one 8 (.one 9 (.br 10 .lf .lf))) .lf) .lf)) .lf)))))))] mixed Try.func20 rfl (by kernel_rfl) (by kernel_rfl) (by simp [Try.ntmps20]) rfl ?_
  simp [stB, stR, stoO, thO, Go.Tre.Sto.app, Try.results20, e_sw, e_ws, g_s0, f_s0, g_s1, f_s1, l_s2, g_s2, f_s2, g_s4, g_r0, g_r1, g_r2, g_w0, f_w0, g_w1, f_w1, g_w2, f_w2]
  have tkB : List.take S.th.length (S.th.map (AV.p ∘ PC.bool)) = S.th.map (AV.p ∘ PC.bool) := List.take_of_length_le (by simp)
  repeat' apply And.intro
  all_goals first
    | omega
    | exact ⟨[(nx, nx + 3), (nx + 1, nx + 4)], by simp [tkB, pcCells, g_s0, g_s1, g_s4, f_s4]; intro a b h; omega⟩

set_option maxHeartbeats 1000000 in
theorem save111 (s r w nx : Nat) (h : Ids3 s r w nx) (S : Sto) (hS : SOk S) (n : Nd) (hn : n.ks.length ≤ 1000 ∧ n.vs.length ≤ 1000) :
    GenC Try.prog 111 [.obj s 0, .p (ndP n)] ⟨stB s r w S, stR r, nx⟩ (.agg true [.p (.int (S.save n).2.1), .p (.int (S.save n).2.2)]) ⟨stB s nx (nx + 1) (S.save n).1, stR nx, nx + 2⟩ := by
  have h' := h
  obtain ⟨hs, hr, hw, sr, sw, rw_⟩ := h
  have e_sw : ¬ s = w := by omega
  have e_ws : ¬ w = s := by omega
  have g_s0 : ¬ s = nx := by omega
  have g_s1 : ¬ s = nx + 1 := by omega
  have f_s1 : ¬ nx + 1 = s := by omega
  have l_s2 : s < nx + 2 := by omega
  have hsv := hS.sv
  have w1 : IntKind.i64.wrap (S.sv + 1) = S.sv + 1 := wrap64_id (by omega) (by omega)
  refine gen_of_aw (rs := [_, _]) [] [(2, [(3, .r 1), (7, .r 1)]), (4, [(4, .w [])])] [(1, s)] mixed Try.func111 rfl (by kernel_rfl) (by kernel_rfl) (by simp [Try.ntmps111]) rfl ?_
  unfold Sto.save
  by_cases c : S.sv + 1 = S.fl
  · have c' : (S.sv + 1 == S.fl) = true := by simpa using c
    rw [if_pos c]
    simp [stB, stR, stoO, thO, w1, c', Try.results111, e_sw, g_s1, l_s2]
    exact ⟨[(nx, r), (nx + 1, w)], by simp [e_sw, e_ws, g_s0, g_s1]; intro a b h; omega⟩
  · have c' : (S.sv + 1 == S.fl) = false := by simpa using c
    rw [if_neg c]
    simp [stB, stR, stoO, thO, w1, c', e_sw]
    refine gcall_of0 (add20 s r w nx h' ⟨S.nd, S.th, S.sv + 1, S.fl⟩ hS.wf hS.len n hn) (by simp) (by simp [stoO, thO, sub1, e_ws]) (by simp [sub1]) rfl ?_
    simp [stB, stR, stoO, thO, Go.Tre.Sto.app, Go.Tre.Sto.add, Try.results111, e_ws, g_s1, l_s2]
    exact ⟨[], by simp [g_s1, f_s1]⟩
set_option maxHeartbeats 1000000 in
theorem load110 (s r w nx : Nat) (h : Ids3 s r w nx) (S : Sto) (hS : SOk S) (p : Int) (hp : -9223372036854775808 ≤ p ∧ p ≤ 9223372036854775807) :
    GenC Try.prog 110 [.obj s 0, .p (.int p)] ⟨stB s r w S, stR r, nx⟩ (.agg true [.p (ndP (gN (S.get p))), .p (.int (if (S.get p).isSome = true then 0 else 33))]) ⟨stB s r w S, stR r, nx⟩ := by
  have h' := h
  obtain ⟨hs, hr, hw, sr, sw, rw_⟩ := h
  have e_sw : ¬ s = w := by omega
  have e_ws : ¬ w = s := by omega
  have l_s0 : s < nx := by omega
  have g_s0 : ¬ s = nx := by omega
  have f_s0 : ¬ nx = s := by omega
  have g_s1 : ¬ s = nx + 1 := by omega
  have f_s1 : ¬ nx + 1 = s := by omega
  have l_r0 : r < nx := by omega
  have l_w0 : w < nx := by omega
  have g_w0 : ¬ w = nx := by omega
  have f_w0 : ¬ nx = w := by omega
  have g_w1 : ¬ w = nx + 1 := by omega
  have f_w1 : ¬ nx + 1 = w := by omega
  refine gen_of_aw (rs := [_, _]) [] [] [] mixed Try.func110 rfl (by kernel_rfl) (by kernel_rfl) (by simp [Try.ntmps110]) rfl ?_
  simp [stB, stR, stoO, thO]
  refine gcall_of0 (node41 s r w (nx + 1) (h'.up (by omega)) S hS p hp) (by simp) (by simp [stoO, thO, sub1, e_ws, g_s0, g_w0]) (by simp [sub1]) rfl ?_
  cases hg : S.get p with
  | none =>
    simp [stB, stR, stoO, thO, gN, nd0, Try.results110, e_sw, e_ws, l_s0, g_s0, f_s0, f_s1, l_r0, l_w0, g_w0, f_w0, f_w1]
    exact ⟨[], by simp [e_sw, e_ws, g_s0, g_s1, g_w0, g_w1]⟩
  | some n =>
    simp [stB, stR, stoO, thO, gN, Try.results110, e_sw, e_ws, l_s0, g_s0, f_s0, f_s1, l_r0, l_w0, g_w0, f_w0, f_w1]
    exact ⟨[], by simp [e_sw, e_ws, g_s0, g_s1, g_w0, g_w1]⟩

theorem set_cells {l : List Bool} {k : Nat} (h : k < l.length) (b : Bool) : List.take k (l.map (AV.p ∘ PC.bool)) ++ AV.p (PC.bool b) :: List.drop (k + 1) (l.map (AV.p ∘ PC.bool)) = (l.set k b).map (AV.p ∘ PC.bool) := by
  rw [List.set_eq_take_append_cons_drop, if_pos h]; simp
set_option maxHeartbeats 1000000 in
theorem drop109 (s r w nx : Nat) (h : Ids3 s r w nx) (S : Sto) (hS : SOk S) (p : Int) (hp : -9223372036854775808 ≤ p ∧ p ≤ 9223372036854775807) :
    GenC Try.prog 109 [.obj s 0, .p (.int p)] ⟨stB s r w S, stR r, nx⟩ (.agg true []) ⟨stB s r w (S.drop p), stR r, nx⟩ := by
  obtain ⟨hs, hr, hw, sr, sw, rw_⟩ := h
  have e_sw : ¬ s = w := by omega
  have e_ws : ¬ w = s := by omega
  have l_s0 : s < nx := by omega
  have l_r0 : r < nx := by omega
  have l_w0 : w < nx := by omega
  have hwf : S.th.length = S.nd.length := hS.wf
  have hlen := hS.len
  refine gen_of_aw (rs := []) [] [] [] mixed Try.func109 rfl (by kernel_rfl) (by kernel_rfl) (by simp [Try.ntmps109]) rfl ?_
  unfold Sto.drop
  by_cases c1 : 1 ≤ p
  · obtain ⟨k, rfl⟩ : ∃ k : Nat, p = ((k + 1 : Nat) : Int) := ⟨p.toNat - 1, by omega⟩
    have w1' : IntKind.i64.wrap ((k : Int) + 1 - 1) = (k : Int) := by rw [wrap64_id (by omega) (by omega)]; omega
    have w2 : IntKind.i64.wrap (k : Int) = (k : Int) := wrap64_id (by omega) (by omega)
    have c1' : (1 : Int) ≤ (k : Int) + 1 := by omega
    by_cases c2 : k < S.th.length
    · have c2' : (k : Int) + 1 ≤ (S.th.length : Int) := by omega
      have c2n : k + 1 ≤ S.th.length := by omega
      have e0 : ((k + 1 : Nat) : Int).toNat - 1 = k := by omega
      rw [if_pos ⟨by omega, by omega⟩, e0]
      have sc := set_cells c2 false
      simp [stB, stR, stoO, thO, w2, c1', c2, c2', c2n, sc, Try.results109, e_sw, e_ws, l_s0, l_r0, l_w0]
      have ls : AV.lim.lims nx ((S.th.map (AV.p ∘ PC.bool)).set k (AV.p (PC.bool false))) = true := by
        rw [show (S.th.map (AV.p ∘ PC.bool)).set k (AV.p (PC.bool false)) = (S.th.set k false).map (AV.p ∘ PC.bool) by simp]; exact lims_pc
      exact ⟨[], by simp [ls, e_sw]⟩
    · have c2' : ¬ (k : Int) + 1 ≤ (S.th.length : Int) := by omega
      rw [if_neg (by omega)]
      simp [stB, stR, stoO, thO, c1', c2', Try.results109, e_sw, l_s0, l_r0, l_w0]
      exact ⟨[], by simp [e_sw, e_ws]⟩
  · rw [if_neg (by omega)]
    simp [stB, stR, stoO, thO, c1, Try.results109, e_sw, l_s0, l_r0, l_w0]
    exact ⟨[], by simp [e_sw, e_ws]⟩

set_option maxHeartbeats 1000000 in
theorem count19 (s r w nx : Nat) (h : Ids3 s r w nx) (S : Sto) (hS : SOk S) :
    GenC Try.prog 19 [.obj s 0] ⟨stB s r w S, stR r, nx⟩ (.p (.int (S.count : Nat))) ⟨stB s r w S, stR r, nx⟩ := by
  obtain ⟨hs, hr, hw, sr, sw, rw_⟩ := h
  have e_sw : ¬ s = w := by omega
  have e_ws : ¬ w = s := by omega
  have l_s0 : s < nx := by omega
  have l_r0 : r < nx := by omega
  have l_w0 : w < nx := by omega
  have hwf : S.th.length = S.nd.length := hS.wf
  have hlen := hS.len
  refine gen_of_aw (rs := [_]) [] [] [] mixed Try.func19 rfl (by kernel_rfl) (by kernel_rfl) (by simp [Try.ntmps19]) rfl ?_
  simp [stB, stR, stoO, thO]
  refine aw_loop (fun k : Nat => k ≤ S.th.length) (fun k => [(0, .obj s 0), (3, .p (.int ((S.th.take k).count true : Nat))), (4, .p (.int k))])
    (fun k => ⟨[(s, stoO r w S), (w, thO S)], [(r, 56, 3)], nx⟩) (fun k => S.th.length - k) 0 (by simp) _ (AS.le_refl _ _) (leN_id (by simp [stoO, thO, e_sw, e_ws, l_s0, l_r0, l_w0])) ?_
  intro k h1
  by_cases c1 : k < S.th.length
  · have hc : (S.th.take k).count true ≤ k := Nat.le_trans List.count_le_length (by simp; omega)
    have w1 : IntKind.i64.wrap ((k : Int) + 1) = ((k + 1 : Nat) : Int) := by rw [wrap64_id (by omega) (by omega)]; rfl
    have w2 : IntKind.i64.wrap (((S.th.take k).count true : Int) + 1) = (((S.th.take k).count true + 1 : Nat) : Int) := by rw [wrap64_id (by omega) (by omega)]; rfl
    have ht : (S.th.take (k + 1)).count true = (S.th.take k).count true + (if S.th[k] = true then 1 else 0) := by
      rw [List.take_succ_eq_append_getElem c1, List.count_append]
      congr 1
      cases S.th[k] <;> rfl
    cases hb : S.th[k] with
    | true =>
      rw [hb] at ht
      simp [c1, hb, w1, w2, e_ws]
      refine ⟨k + 1, by omega, by omega, leN_id (by rw [ht]; simp [stoO, thO, e_sw, e_ws, l_s0, l_r0, l_w0])⟩
    | false =>
      rw [hb] at ht
      simp [c1, hb, w1, e_ws]
      refine ⟨k + 1, by omega, by omega, leN_id (by rw [ht]; simp [stoO, thO, e_sw, e_ws, l_s0, l_r0, l_w0])⟩
  · have e : k = S.th.length := by omega
    subst e
    simp [Go.Tre.Sto.count, Try.results19, e_sw, l_s0, l_r0, l_w0]
    exact ⟨[], by simp [stoO, thO, e_sw, e_ws]⟩
end Go.Av

/-! part W14 -/
namespace Go.Av
open Go.Proofs Go.Tre
set_option maxRecDepth 100000

theorem ris_risB : ∀ (ks : List Key), chn ks → risB ks = true
  | [], _ => rfl
  | [_], _ => rfl
  | a :: b :: l, h => by simp only [risB, Bool.and_eq_true]; exact ⟨h.1, ris_risB (b :: l) h.2⟩
theorem rightB_iff (n : Nd) : rightB n.lf n.ks n.vs = true ↔ Right n := by
  constructor
  · intro h
    have hc := right_chn h
    simp only [rightB, Bool.and_eq_true, decide_eq_true_eq, List.all_eq_true, List.mem_range, Bool.or_eq_true] at h
    obtain ⟨⟨⟨⟨h1, h2⟩, h3⟩, h4⟩, h5⟩ := h
    refine ⟨(risB_iff _).1 (ris_risB _ hc.1), fun k hk => ?_, fun v hv => ?_, h1, by simpa [fmd] using h2, fun hl => ?_⟩
    · obtain ⟨i, hi, rfl⟩ := List.getElem_of_mem hk
      have := h4 i hi
      simp only [kB, Bool.and_eq_true, decide_eq_true_eq, List.getD_eq_getElem?_getD, List.getElem?_eq_getElem hi, Option.getD_some] at this
      exact this.1
    · have := h5 v hv; simpa [vB, vOk] using this
    · rcases h3 with h3 | h3
      · rw [hl] at h3; cases h3
      · exact h3
  · intro h
    simp only [rightB, Bool.and_eq_true, decide_eq_true_eq, List.all_eq_true, List.mem_range, Bool.or_eq_true]
    refine ⟨⟨⟨⟨h.len, by simpa [fmd] using h.form⟩, ?_⟩, fun i hi => ?_⟩, fun v hv => by have := h.vals v hv; simpa [vB, vOk] using this⟩
    · cases hl : n.lf with
      | true => exact .inl rfl
      | false => exact .inr (h.inner hl)
    · have hk := h.keys _ (List.getElem_mem hi)
      simp only [kB, Bool.and_eq_true, decide_eq_true_eq, List.getD_eq_getElem?_getD, List.getElem?_eq_getElem hi, Option.getD_some, Bool.or_eq_true, beq_iff_eq]
      refine ⟨hk, ?_⟩
      rcases Nat.eq_zero_or_pos i with h0 | h0
      · exact .inl h0
      · right
        rw [List.getElem?_eq_getElem (by omega)]
        exact ris_get h.ris (by omega) hi
theorem rB_rightB (n : Nd) : rightB n.lf n.ks n.vs = rB n := by rw [Bool.eq_iff_iff, rightB_iff, rB_iff]

@[reducible] def treO (s : Nat) (root : Int) : Ob := ⟨73, 2, [.ifc 24 (.obj s 0), .p (.int root)]⟩
/-- a tree, and its store -/
@[reducible] def trB (t s r w : Nat) (S : Sto) (root : Int) : List (Nat × Ob) := (t, treO s root) :: stB s r w S
structure Ids4 (t s r w nx : Nat) : Prop where
  ht : t < nx
  i3 : Ids3 s r w nx
  ts : t ≠ s
  tr : t ≠ r
  tw : t ≠ w
theorem Ids4.up {t s r w nx m : Nat} (h : Ids4 t s r w nx) (hm : nx ≤ m) : Ids4 t s r w m := ⟨by have := h.ht; omega, h.i3.up hm, h.ts, h.tr, h.tw⟩
def i64b (v : Int) : Prop := -9223372036854775808 ≤ v ∧ v ≤ 9223372036854775807

theorem tload_small {S : Sto} (hS : SOk S) (p : Int) : (tload S p).1.ks.length ≤ 1000 ∧ (tload S p).1.vs.length ≤ 1000 ∧ ∀ k ∈ (tload S p).1.ks, k.length ≤ 1000000 := by
  unfold tload
  cases hg : S.get p with
  | none => simp [nd0]
  | some n =>
    have hn := hS.nds n (by
      unfold Sto.get at hg
      split at hg
      · exact List.mem_of_getElem? hg
      · cases hg)
    by_cases c : rB n = true
    · simpa [c] using hn
    · simp [c, nd0]

set_option maxHeartbeats 1000000 in
theorem load46 (t s r w nx : Nat) (h : Ids4 t s r w nx) (S : Sto) (hS : SOk S) (root p : Int) (hp : i64b p) :
    GenC Try.prog 46 [.obj t 0, .p (.int p)] ⟨trB t s r w S root, stR r, nx⟩ (.agg true [.p (ndP (tload S p).1), .p (.int (tload S p).2)]) ⟨trB t s r w S root, stR r, nx⟩ := by
  have h' := h
  obtain ⟨ht, ⟨hs, hr, hw, sr, sw, rw_⟩, ts, tr, tw⟩ := h
  have e_ts : ¬ t = s := by omega
  have e_st : ¬ s = t := by omega
  have e_tw : ¬ t = w := by omega
  have e_wt : ¬ w = t := by omega
  have e_sw : ¬ s = w := by omega
  have e_ws : ¬ w = s := by omega
  have l_t0 : t < nx := by omega
  have g_t0 : ¬ t = nx := by omega
  have f_t0 : ¬ nx = t := by omega
  have g_t1 : ¬ t = nx + 1 := by omega
  have f_t1 : ¬ nx + 1 = t := by omega
  have l_s0 : s < nx := by omega
  have g_s0 : ¬ s = nx := by omega
  have f_s0 : ¬ nx = s := by omega
  have g_s1 : ¬ s = nx + 1 := by omega
  have f_s1 : ¬ nx + 1 = s := by omega
  have l_r0 : r < nx := by omega
  have l_w0 : w < nx := by omega
  have g_w0 : ¬ w = nx := by omega
  have f_w0 : ¬ nx = w := by omega
  have g_w1 : ¬ w = nx + 1 := by omega
  have f_w1 : ¬ nx + 1 = w := by omega
  refine gen_of_aw (rs := [_, _]) [] [] [] mixed Try.func46 rfl (by kernel_rfl) (by kernel_rfl) (by simp [Try.ntmps46]) rfl ?_
  simp [trB, stB, stR, stoO, thO, treO, methL, g_t0]
  refine icall_of (load110 s r w (nx + 1) (h'.i3.up (by omega)) S hS p hp) (by simp) (by simp [stoO, thO, sub1, e_st, e_wt, e_ws, g_s0, g_w0]) (by simp [sub1]) rfl ?_
  cases hg : S.get p with
  | none =>
    have e : tload S p = (nd0, 33) := by unfold tload; rw [hg]
    simp [e, stB, stR, stoO, thO, gN, nd0, Try.results46, e_ts, e_st, e_tw, e_wt, e_sw, e_ws, l_t0, f_t0, f_t1, l_s0, g_s0, f_s0, f_s1, l_r0, l_w0, g_w0, f_w0, f_w1]
    exact ⟨[], by simp [e_ts, e_tw, e_sw, e_ws, g_t0, g_t1, g_s0, g_s1, g_w0, g_w1]⟩
  | some n =>
    have hn := hS.nds n (by
      unfold Sto.get at hg
      split at hg
      · exact List.mem_of_getElem? hg
      · cases hg)
    have hr29 := right29 n.lf n.ks n.vs (by omega) (by omega)
    rw [rB_rightB] at hr29
    by_cases c : rB n = true
    · have e : tload S p = (n, 0) := by unfold tload; rw [hg]; simp [c]
      rw [c] at hr29
      simp [e, stB, stR, stoO, thO, gN, e_st, e_wt, e_ws, f_t1, g_s0, f_s1, g_w0, f_w1]
      refine pcall_of hr29 (by simp) ?_
      simp [Try.results46, e_ts, e_tw, e_sw, l_t0, f_t0, l_s0, f_s0, l_r0, l_w0, f_w0]
      exact ⟨[], by simp [e_ts, e_tw, e_sw, e_ws, g_t0, g_t1, g_s0, g_s1, g_w0, g_w1]⟩
    · have c' : rB n = false := by simpa using c
      have e : tload S p = (nd0, 10) := by unfold tload; rw [hg]; simp [c]
      rw [c'] at hr29
      simp [e, stB, stR, stoO, thO, gN, e_st, e_wt, e_ws, f_t1, g_s0, f_s1, g_w0, f_w1]
      refine pcall_of hr29 (by simp) ?_
      simp [nd0, Try.results46, e_ts, e_tw, e_sw, l_t0, f_t0, l_s0, f_s0, l_r0, l_w0, f_w0]
      exact ⟨[], by simp [e_ts, e_tw, e_sw, e_ws, g_t0, g_t1, g_s0, g_s1, g_w0, g_w1]⟩
end Go.Av

/-! part W15 -/
namespace Go.Av
open Go.Proofs Go.Tre
set_option maxRecDepth 100000

@[reducible] def stP (x : Step) : PC := .agg false [.bool x.n.lf, .sl (x.n.ks.map PC.str), .sl (x.n.vs.map PC.int), .int x.p, .int x.c]
theorem childB (n : Nd) (key : Key) (hk : n.ks.length ≤ 1000000) : PureC Try.prog 47 [ndP n, .str key] (.int (childM n key : Nat)) := child13 n.lf n.ks n.vs key (by omega)
theorem findB (n : Nd) (key : Key) (hk : n.ks.length ≤ 1000000) : PureC Try.prog 30 [ndP n, .str key] (.tp [.int (findM n key : Nat), .bool (hadM n key)]) := find11 n.lf n.ks n.vs key (by omega)
theorem tload_cases (S : Sto) (p : Int) : ((tload S p).2 = 0 ∧ Right (tload S p).1) ∨ (tload S p).1 = nd0 ∧ ((tload S p).2 = 10 ∨ (tload S p).2 = 33) := by
  unfold tload
  cases S.get p with
  | none => exact .inr ⟨rfl, .inr rfl⟩
  | some n =>
    by_cases c : rB n = true
    · left; simp [c, (rB_iff n).1 c]
    · right; simp [c]

set_option maxHeartbeats 2000000 in
theorem way29 (t s r w nx : Nat) (h : Ids4 t s r w nx) (S : Sto) (hS : SOk S) (root : Int) (hroot : i64b root) (key : Key) :
    GenC Try.prog 29 [.obj t 0, .p (.str key)] ⟨trB t s r w S root, stR r, nx⟩ (.agg true [.p (.sl ((wayM S key 40 root []).1.map stP)), .p (.int (wayM S key 40 root []).2)]) ⟨trB t s r w S root, stR r, nx⟩ := by
  have h' := h
  obtain ⟨ht, ⟨hs, hr, hw, sr, sw, rw_⟩, ts, tr, tw⟩ := h
  have e_ts : ¬ t = s := by omega
  have e_st : ¬ s = t := by omega
  have e_tw : ¬ t = w := by omega
  have e_wt : ¬ w = t := by omega
  have e_sw : ¬ s = w := by omega
  have e_ws : ¬ w = s := by omega
  have l_t0 : t < nx := by omega
  have g_t0 : ¬ t = nx := by omega
  have l_t1 : t < nx + 1 := by omega
  have g_t1 : ¬ t = nx + 1 := by omega
  have f_t1 : ¬ nx + 1 = t := by omega
  have g_t2 : ¬ t = nx + 2 := by omega
  have f_t2 : ¬ nx + 2 = t := by omega
  have l_s0 : s < nx := by omega
  have g_s0 : ¬ s = nx := by omega
  have l_s1 : s < nx + 1 := by omega
  have g_s1 : ¬ s = nx + 1 := by omega
  have f_s1 : ¬ nx + 1 = s := by omega
  have g_s2 : ¬ s = nx + 2 := by omega
  have f_s2 : ¬ nx + 2 = s := by omega
  have l_r0 : r < nx := by omega
  have g_r0 : ¬ r = nx := by omega
  have f_r0 : ¬ nx = r := by omega
  have l_r1 : r < nx + 1 := by omega
  have g_r3 : ¬ r = nx + 3 := by omega
  have f_r3 : ¬ nx + 3 = r := by omega
  have l_w0 : w < nx := by omega
  have g_w0 : ¬ w = nx := by omega
  have l_w1 : w < nx + 1 := by omega
  have g_w1 : ¬ w = nx + 1 := by omega
  have f_w1 : ¬ nx + 1 = w := by omega
  have g_w2 : ¬ w = nx + 2 := by omega
  have f_w2 : ¬ nx + 2 = w := by omega
  obtain ⟨R, hR⟩ : ∃ R, R = wayM S key 40 root [] := ⟨_, rfl⟩
  rw [← hR]
  refine gen_of_aw (rs := [_, _]) [] [(9, [(0, .r 1), (2, .r 1), (6, .w [1]), (7, .s 2 [1])])] [(1, nx + 1), (2, nx + 2)] mixed Try.func29 rfl (by kernel_rfl) (by kernel_rfl) (by simp [Try.ntmps29]) rfl ?_
  simp [trB, stB, stR, treO]
  refine aw_loop (fun y : Int × Nat × List Step => wayM S key y.2.1 y.1 y.2.2 = R ∧ y.2.2.length + y.2.1 = 40 ∧ i64b y.1)
    (fun y => [(0, .obj t 0), (1, .p (.str key)), (6, .own nx (y.2.2.map stP)), (7, .p (.int y.1))])
    (fun y => ⟨[(t, treO s root), (s, stoO r w S), (w, thO S)], [(nx, 82, 5), (r, 56, 3)], nx + 1⟩) (fun y => y.2.1) (root, 40, []) ⟨hR.symm, rfl, hroot⟩ _ (le_own 6 82 5 [] (.inr ⟨rfl, by simp⟩)) (leN_id (by simp [treO, stoO, thO, e_ts, e_st, e_tw, e_wt, e_sw, e_ws, l_t1, l_s1, g_r0, f_r0, l_r1, l_w1])) ?_
  rintro ⟨page, f, out⟩ ⟨g1, g2, g3⟩
  simp only at g1 g2 g3
  by_cases c0 : page = 0
  · subst c0
    have e : wayM S key f 0 out = (out, 0) := by unfold wayM; cases f <;> rfl
    rw [e] at g1
    simp [← g1, Try.results29]
    exact ⟨[], by simp [treO, stoO, thO, e_ts, e_st, e_tw, e_wt, e_sw, e_ws, l_t0, l_s0, l_r0, g_r0, l_w0]⟩
  have c0' : (page != 0) = true := by simpa using c0
  cases f with
  | zero =>
    have e : wayM S key 0 page out = ([], 10) := by unfold wayM; rw [if_neg c0]
    rw [e] at g1
    have c1 : (40 : Int) ≤ (out.length : Int) := by omega
    simp [c0', c1, ← g1, Try.results29]
    exact ⟨[], by simp [treO, stoO, thO, e_ts, e_st, e_tw, e_wt, e_sw, e_ws, l_t0, l_s0, l_r0, g_r0, l_w0]⟩
  | succ f =>
    have c1 : ¬ (40 : Int) ≤ (out.length : Int) := by omega
    have hsm := tload_small hS page
    unfold wayM at g1
    rw [if_neg c0] at g1
    simp [c0', c1]
    refine gcall_of0 (load46 t s r w (nx + 1) (h'.up (by omega)) S hS root page g3) (by simp) (by simp [treO, stoO, thO, sub1, e_st, e_wt, e_ws]) (by simp [sub1, g_r0]) rfl ?_
    rcases tload_cases S page with ⟨d1, d2⟩ | ⟨d1, d2⟩
    · rw [if_pos d1] at g1
      generalize tload S page = q at *
      obtain ⟨n, e⟩ := q
      simp only at d1 d2 g1 hsm
      subst d1
      simp [trB, stB, stR, treO, stoO, thO, e_st, e_wt, e_ws, f_t1, f_s1, g_r0, f_w1]
      refine call_of (childB n key (by omega)) ?_
      have hcl := childM_le n key
      have h4 := d2.len
      have hfm := d2.form
      have hol : (out.length + 1) * 72 ≤ 140737488355328 := by omega
      by_cases c2 : n.lf = true
      · rw [if_pos c2] at g1
        simp [c2, ← g1, Try.results29, e_ts, e_tw, e_sw, l_t0, f_t2, l_s0, f_s2, l_r0, f_r0, l_w0, f_w2]
        exact ⟨by omega, by omega, [], by simp [e_ts, e_st, e_tw, e_wt, e_sw, e_ws, g_t1, g_t2, g_s1, g_s2, g_r3, g_w1, g_w2]⟩
      · have c2' : n.lf = false := by simpa using c2
        rw [if_neg c2] at g1
        rw [c2'] at hfm
        simp only [Bool.false_eq_true, if_false] at hfm
        have hci : childM n key < n.vs.length := by omega
        have hvv := d2.vals n.vs[childM n key] (List.getElem_mem hci)
        have hgd : n.vs.getD (childM n key) 0 = n.vs[childM n key] := by rw [List.getD_eq_getElem?_getD, List.getElem?_eq_getElem hci]; rfl
        rw [hgd] at g1
        simp [c2', hci, f_t2, f_s2, f_r0, f_w2]
        refine ⟨by omega, by omega, n.vs[childM n key], f, out ++ [⟨n, page, childM n key⟩], ⟨g1, by simp; omega, ⟨by have := hvv.1; omega, by have := hvv.2; omega⟩⟩, by omega, leN_of [(nx, nx + 3)] (by simp [c2', e_ts, e_st, e_tw, e_wt, e_sw, e_ws, g_t0, l_t1, g_t1, g_t2, g_s0, l_s1, g_s1, g_s2, g_r0, f_r0, l_r1, g_r3, f_r3, g_w0, l_w1, g_w1, g_w2])⟩
    · have d3 : ¬ (tload S page).2 = 0 := by omega
      rw [if_neg d3] at g1
      generalize tload S page = q at *
      obtain ⟨n, e⟩ := q
      simp only at d1 d2 d3 g1
      have d3' : (e != 0) = true := by simpa using d3
      simp [trB, stB, stR, treO, stoO, thO, d3', ← g1, Try.results29, e_ts, e_st, e_tw, e_wt, e_sw, e_ws, l_t0, f_t1, l_s0, f_s1, l_r0, g_r0, l_w0, f_w1]
      exact ⟨[], by simp [e_ts, e_st, e_tw, e_wt, e_sw, e_ws, g_t1, g_s1, g_w1]⟩
end Go.Av

/-! part W16 -/
namespace Go.Av
open Go.Proofs Go.Tre
set_option maxRecDepth 100000

/-- a list without spare room may be handed over as a row -/
theorem gen_full {P : Program} {f : FuncId} {r : AV} {tb' : Tb} {pre post : List AV} {xs : List PC} {el sz : Nat} {bx : List (Nat × Ob)} {rw : List (Nat × TypeId × Nat)} {nx : Nat}
    (h : GenC P f (pre ++ .own nx xs :: post) ⟨bx, (nx, el, sz) :: rw, nx + 1⟩ r tb') : GenC P f (pre ++ .full xs :: post) ⟨bx, rw, nx⟩ r tb' := by
  refine ⟨h.1, fun g w vs F hw hvs => ?_⟩
  obtain ⟨us, ws, rfl, hu, hws⟩ := RepVs.split pre hvs
  cases hws with
  | cons h1 hs =>
    cases h1 with
    | full hr =>
      rename_i a n
      have hle := hw.leRv (.slice a n n)
      refine (h.2 _ w _ F (hw.fullRw el sz a n) ((hu.mono hle).append (.cons (.own (by simp [G.rvAt]) (hr.mono hle.M)) (hs.mono hle)))).mono ?_
      rintro e w' ⟨v, g', rfl, h2, h3, h4⟩
      exact ⟨v, g', rfl, hle.trans h2, h3, h4⟩

theorem wayM_spec (S : Sto) (key : Key) : ∀ (f : Nat) (page : Int) (out : List Step), (∀ x ∈ out, Right x.n ∧ x.c = childM x.n key) → (wayM S key f page out).1.length ≤ out.length + f ∧ ∀ x ∈ (wayM S key f page out).1, Right x.n ∧ x.c = childM x.n key
  | 0, page, out, h => by
    unfold wayM; split
    · exact ⟨by simp, h⟩
    · exact ⟨by simp, by simp⟩
  | f + 1, page, out, h => by
    unfold wayM
    split
    · exact ⟨by simp, h⟩
    · split
      · rename_i h2
        have h3 := (tload_inv h2).2
        have h4 : ∀ x ∈ out ++ [⟨(tload S page).1, page, childM (tload S page).1 key⟩], Right x.n ∧ x.c = childM x.n key := fun x hx => by
          rcases List.mem_append.1 hx with hx | hx
          · exact h x hx
          · rw [List.mem_singleton] at hx; subst hx; exact ⟨h3, rfl⟩
        split
        · exact ⟨by rw [List.length_append]; simp only [List.length_cons, List.length_nil]; omega, h4⟩
        · have := wayM_spec S key f ((tload S page).1.vs.getD (childM (tload S page).1 key) 0) _ h4
          have h5 := this.1
          rw [List.length_append] at h5
          simp only [List.length_cons, List.length_nil] at h5
          exact ⟨by omega, this.2⟩
      · exact ⟨by simp, by simp⟩
theorem way_len (S : Sto) (key : Key) (root : Int) : (wayM S key 40 root []).1.length ≤ 40 := by simpa using (wayM_spec S key 40 root [] (by simp)).1
theorem way_right (S : Sto) (key : Key) (root : Int) : ∀ x ∈ (wayM S key 40 root []).1, Right x.n ∧ x.c = childM x.n key := (wayM_spec S key 40 root [] (by simp)).2

set_option maxHeartbeats 1000000 in
theorem get22 (t s r w nx : Nat) (h : Ids4 t s r w nx) (S : Sto) (hS : SOk S) (root : Int) (hroot : i64b root) (key : Key) :
    GenC Try.prog 22 [.obj t 0, .p (.str key)] ⟨trB t s r w S root, stR r, nx⟩ (.agg true [.p (.int (getM S root key).1), .p (.bool (getM S root key).2.1), .p (.int (getM S root key).2.2)]) ⟨trB t s r w S root, stR r, nx⟩ := by
  have h' := h
  obtain ⟨ht, ⟨hs, hr, hw, sr, sw, rw_⟩, ts, tr, tw⟩ := h
  have e_ts : ¬ t = s := by omega
  have e_st : ¬ s = t := by omega
  have e_tw : ¬ t = w := by omega
  have e_wt : ¬ w = t := by omega
  have e_sw : ¬ s = w := by omega
  have e_ws : ¬ w = s := by omega
  have l_t0 : t < nx := by omega
  have g_t0 : ¬ t = nx := by omega
  have f_t0 : ¬ nx = t := by omega
  have l_s0 : s < nx := by omega
  have g_s0 : ¬ s = nx := by omega
  have f_s0 : ¬ nx = s := by omega
  have l_r0 : r < nx := by omega
  have l_w0 : w < nx := by omega
  have g_w0 : ¬ w = nx := by omega
  have f_w0 : ¬ nx = w := by omega
  refine gen_of_aw (rs := [_, _, _]) [] [] [] mixed Try.func22 rfl (by kernel_rfl) (by kernel_rfl) (by simp [Try.ntmps22]) rfl ?_
  simp
  refine gcall_of0 (way29 t s r w nx h' S hS root hroot key) (by simp) (by simp [trB, stB, treO, stoO, thO, sub1, e_st, e_wt, e_ws]) (by simp [stR, sub1]) rfl ?_
  have hlen := way_len S key root
  have hway := way_right S key root
  unfold getM
  generalize wayM S key 40 root [] = q at *
  obtain ⟨l, e⟩ := q
  simp only at hlen hway ⊢
  by_cases c : e = 0
  · subst c
    simp only [if_true]
    rcases List.eq_nil_or_concat l with rfl | ⟨l, x, rfl⟩
    · simp [trB, stB, stR, treO, stoO, thO, Try.results22, e_ts, e_st, e_tw, e_wt, e_sw, e_ws, l_t0, l_s0, l_r0, l_w0]
      exact ⟨[], by simp [e_ts, e_st, e_tw, e_wt, e_sw, e_ws]⟩
    · have hx := (hway x (by simp)).1
      have hl40 : l.length ≤ 40 := by simp at hlen; omega
      have hxl := hx.len
      have hfd := findB x.n key (by omega)
      have w1 : IntKind.i64.wrap ((l.length : Int) + 1 - 1) = (l.length : Int) := by rw [wrap64_id (by omega) (by omega)]; omega
      have w2 : IntKind.i64.wrap (l.length : Int) = (l.length : Int) := wrap64_id (by omega) (by omega)
      have c1 : ((l.length : Int) + 1 == 0) = false := by simp; omega
      simp only [List.concat_eq_append, List.getLast?_append, List.getLast?_singleton, Option.some_or]
      simp [trB, stB, stR, treO, stoO, thO, c1, w2, e_st, e_wt, e_ws, f_t0, f_s0, f_w0]
      refine pcall_of hfd (by simp) ?_
      have hfm := hx.form
      by_cases c2 : hadM x.n key = true
      · obtain ⟨hi, _⟩ := had_lt c2
        have hiv : findM x.n key < x.n.vs.length := by rw [hfm]; split <;> omega
        have hgd : x.n.vs.getD (findM x.n key) 0 = x.n.vs[findM x.n key] := by rw [List.getD_eq_getElem?_getD, List.getElem?_eq_getElem hiv]; rfl
        unfold getX
        rw [hgd]
        simp [c2, hiv, Try.results22, e_ts, e_tw, e_sw, l_t0, l_s0, l_r0, l_w0]
        exact ⟨[], by simp [e_ts, e_st, e_tw, e_wt, e_sw, e_ws, g_t0, g_s0, g_w0]⟩
      · have c2' : hadM x.n key = false := by simpa using c2
        unfold getX
        simp [c2', Try.results22, e_ts, e_tw, e_sw, l_t0, l_s0, l_r0, l_w0]
        exact ⟨[], by simp [e_ts, e_st, e_tw, e_wt, e_sw, e_ws, g_t0, g_s0, g_w0]⟩
  · have c' : (e != 0) = true := by simpa using c
    rw [if_neg c]
    simp [trB, stB, stR, treO, stoO, thO, c', Try.results22, e_ts, e_st, e_tw, e_wt, e_sw, e_ws, l_t0, l_s0, l_r0, l_w0]
    exact ⟨[], by simp [e_ts, e_st, e_tw, e_wt, e_sw, e_ws]⟩

theorem foldE_ok {α : Type} {g : Int → α → α × Int} {bad a b : α} {p : Int} {l : List Int} (h : foldE g bad (p :: l) a = (b, 0)) : (g p a).2 = 0 ∧ foldE g bad l (g p a).1 = (b, 0) := by
  unfold foldE at h
  split at h
  · rename_i h0; exact ⟨h0, h⟩
  · rename_i h0; exact absurd (congrArg Prod.snd h) h0
theorem foldE_mono {g : Int → List Int → List Int × Int} (hg : ∀ p a, (g p a).2 = 0 → a.length ≤ (g p a).1.length) : ∀ (l : List Int) {a b : List Int}, foldE g [] l a = (b, 0) → a.length ≤ b.length
  | [], a, b, h => by unfold foldE at h; injection h with h _; rw [h]; exact Nat.le_refl _
  | p :: l, a, b, h => by
    obtain ⟨h1, h2⟩ := foldE_ok h
    exact Nat.le_trans (hg p a h1) (foldE_mono hg l h2)
theorem pagesM_mono (S : Sto) : ∀ (f : Nat) (p : Int) (out : List Int), (pagesM S f p out).2 = 0 → out.length ≤ (pagesM S f p out).1.length
  | 0, p, out, h => by simp [pagesM] at h
  | f + 1, p, out, h => by
    unfold pagesM at h ⊢
    split at h
    · rename_i h0
      rw [if_pos h0]
      split at h
      · rename_i h1; rw [if_pos h1]; simp
      · rename_i h1
        rw [if_neg h1]
        have := foldE_mono (fun p a => pagesM_mono S f p a) (tload S p).1.vs (a := out ++ [p]) (b := (foldE (pagesM S f) [] (tload S p).1.vs (out ++ [p])).1) (Prod.ext rfl h)
        simp at this; omega
    · rename_i h0; exact absurd h h0

set_option maxHeartbeats 2000000 in
theorem pages45 (t s r w : Nat) (S : Sto) (hS : SOk S) (root : Int) : ∀ (f d : Nat) (page : Int) (nx o : Nat) (out out' : List Int), Ids4 t s r w nx → o < nx → o ≠ r → i64b page → d + f = 40 → pagesM S f page out = (out', 0) → out'.length ≤ 1000000000 →
    GenC Try.prog 45 [.obj t 0, .p (.int page), .p (.int d), .own o (out.map PC.int)] ⟨trB t s r w S root, (o, 3, 1) :: stR r, nx⟩ (.agg true [.own nx (out'.map PC.int), .p (.int 0)]) ⟨trB t s r w S root, (nx, 3, 1) :: stR r, nx + 1⟩ := by
  intro f
  induction f with
  | zero => intro d page nx o out out' _ _ _ _ _ hm _; simp [pagesM] at hm
  | succ f ih =>
  intro d page nx o out out' h ho hor hp hd hm hlen
  have h' := h
  obtain ⟨ht, ⟨hs, hr, hw, sr, sw, rw_⟩, ts, tr, tw⟩ := h
  have e_ts : ¬ t = s := by omega
  have e_st : ¬ s = t := by omega
  have e_tw : ¬ t = w := by omega
  have e_wt : ¬ w = t := by omega
  have e_sw : ¬ s = w := by omega
  have e_ws : ¬ w = s := by omega
  have g_t0 : ¬ t = nx := by omega
  have f_t0 : ¬ nx = t := by omega
  have l_t1 : t < nx + 1 := by omega
  have g_s0 : ¬ s = nx := by omega
  have f_s0 : ¬ nx = s := by omega
  have l_s1 : s < nx + 1 := by omega
  have g_r0 : ¬ r = nx := by omega
  have f_r0 : ¬ nx = r := by omega
  have l_r1 : r < nx + 1 := by omega
  have g_r1 : ¬ r = nx + 1 := by omega
  have f_r1 : ¬ nx + 1 = r := by omega
  have g_w0 : ¬ w = nx := by omega
  have f_w0 : ¬ nx = w := by omega
  have l_w1 : w < nx + 1 := by omega
  have e_or : ¬ o = r := hor
  have e_ro : ¬ r = o := fun h => hor h.symm
  have c0 : ¬ (40 : Int) ≤ (d : Int) := by omega
  have hsm := tload_small hS page
  unfold pagesM at hm
  refine gen_of_aw (rs := [_, _]) [] [] [] mixed Try.func45 rfl (by kernel_rfl) (by kernel_rfl) (by simp [Try.ntmps45]) rfl ?_
  simp [c0]
  refine gcall_of0 (load46 t s r w nx (h'.up (by omega)) S hS root page hp) (by simp) (by simp [trB, stB, treO, stoO, thO, sub1, e_st, e_wt, e_ws]) (by simp [stR, sub1, e_ro]) rfl ?_
  rcases tload_cases S page with ⟨d1, d2⟩ | ⟨d1, d2⟩
  · rw [if_pos d1] at hm
    generalize tload S page = q at *
    obtain ⟨n, e⟩ := q
    simp only at d1 d2 hm hsm
    subst d1
    by_cases c2 : n.lf = true
    · rw [if_pos c2] at hm
      injection hm with hm _
      subst hm
      simp at hlen
      simp [trB, stB, stR, treO, stoO, thO, c2, Try.results45, e_ts, e_st, e_tw, e_wt, e_sw, e_ws, f_t0, l_t1, f_s0, l_s1, f_r0, l_r1, f_w0, l_w1, e_or, e_ro]
      exact ⟨by omega, by omega, [(nx, nx + 1)], by simp [e_ts, e_st, e_tw, e_wt, e_sw, e_ws, g_t0, g_s0, g_r0, g_r1, f_r1, g_w0]⟩
    · have c2' : n.lf = false := by simpa using c2
      rw [if_neg c2] at hm
      have hmono := foldE_mono (fun p a => pagesM_mono S f p a) n.vs hm
      simp only [List.length_append, List.length_cons, List.length_nil] at hmono
      have hvl := d2.form
      have hkl := d2.len
      have hv5 : n.vs.length ≤ 5 := by rw [hvl]; split <;> omega
      have wd : IntKind.i64.wrap ((d : Int) + 1) = ((d + 1 : Nat) : Int) := by rw [wrap64_id (by omega) (by omega)]; rfl
      simp [trB, stB, stR, treO, stoO, thO, c2', e_st, e_wt, e_ws, f_t0, f_s0, f_w0, e_or, e_ro]
      refine ⟨by omega, by omega, ?_⟩
      refine aw_loop (fun y : Nat × List Int => y.1 ≤ n.vs.length ∧ foldE (pagesM S f) [] (n.vs.drop y.1) y.2 = (out', 0))
        (fun y => [(0, .obj t 0), (2, .p (.int d)), (3, .own nx (y.2.map PC.int)), (33, .p (.sl (n.vs.map PC.int))), (34, .p (.int n.vs.length)), (35, .p (.int y.1))])
        (fun y => ⟨[(t, treO s root), (s, stoO r w S), (w, thO S)], [(nx, 3, 1), (r, 56, 3)], nx + 1⟩) (fun y => n.vs.length - y.1) (0, out ++ [page]) ⟨by simp, by simpa using hm⟩ _ (AS.le_refl _ _) (leN_of [(nx, nx + 1)] (by simp [treO, stoO, thO, e_ts, e_st, e_tw, e_wt, e_sw, e_ws, g_t0, l_t1, g_s0, l_s1, g_r0, f_r0, l_r1, g_r1, f_r1, g_w0, l_w1])) ?_
      rintro ⟨k, cur⟩ ⟨g1, g2⟩
      simp only at g1 g2
      by_cases c3 : k < n.vs.length
      · rw [List.drop_eq_getElem_cons c3] at g2
        obtain ⟨g3, g4⟩ := foldE_ok g2
        have hcur := pagesM_mono S f n.vs[k] cur g3
        have hnext := foldE_mono (fun p a => pagesM_mono S f p a) _ g4
        have hvv := d2.vals n.vs[k] (List.getElem_mem c3)
        have wk : IntKind.i64.wrap ((k : Int) + 1) = ((k + 1 : Nat) : Int) := by rw [wrap64_id (by omega) (by omega)]; rfl
        simp [c3, wd]
        refine gcall_of0 (ih (d + 1) n.vs[k] (nx + 1) nx cur (pagesM S f n.vs[k] cur).1 (h'.up (by omega)) (by omega) (by omega) ⟨by have := hvv.1; omega, by have := hvv.2; omega⟩ (by omega) (Prod.ext rfl g3) (by omega)) (by simp) (by simp [treO, stoO, thO, sub1, e_st, e_wt, e_ws]) (by simp [sub1, g_r0]) rfl ?_
        simp [trB, stB, stR, treO, stoO, thO, wk, e_st, e_wt, e_ws, g_r0]
        exact ⟨k + 1, (pagesM S f n.vs[k] cur).1, ⟨by omega, g4⟩, by omega, leN_of [(nx, nx + 1)] (by simp [e_ts, e_st, e_tw, e_wt, e_sw, e_ws, g_t0, l_t1, g_s0, l_s1, g_r0, f_r0, l_r1, g_r1, f_r1, g_w0, l_w1])⟩
      · have e : k = n.vs.length := by omega
        subst e
        rw [List.drop_length] at g2
        unfold foldE at g2
        injection g2 with g2 _
        subst g2
        simp [treO, stoO, thO, Try.results45, e_ts, e_tw, e_sw, l_t1, l_s1, f_r0, l_r1, l_w1]
        exact ⟨[], by simp [e_ts, e_st, e_tw, e_wt, e_sw, e_ws, g_r0, f_r0]⟩
  · exfalso
    rw [if_neg (by omega)] at hm
    have := congrArg Prod.snd hm
    simp only at this; omega

set_option maxHeartbeats 1000000 in
theorem pages27 (t s r w nx : Nat) (h : Ids4 t s r w nx) (S : Sto) (hS : SOk S) (root : Int) (hroot : i64b root) (l : List Int) (hl : pagesG S root = (l, 0)) (hlen : l.length ≤ 1000000000) :
    GenC Try.prog 27 [.obj t 0] ⟨trB t s r w S root, stR r, nx⟩ (.agg true [.p (.sl (l.map PC.int)), .p (.int 0)]) ⟨trB t s r w S root, stR r, nx⟩ := by
  have h' := h
  obtain ⟨ht, ⟨hs, hr, hw, sr, sw, rw_⟩, ts, tr, tw⟩ := h
  have e_ts : ¬ t = s := by omega
  have e_st : ¬ s = t := by omega
  have e_tw : ¬ t = w := by omega
  have e_wt : ¬ w = t := by omega
  have e_sw : ¬ s = w := by omega
  have e_ws : ¬ w = s := by omega
  have l_t0 : t < nx := by omega
  have l_s0 : s < nx := by omega
  have l_r0 : r < nx := by omega
  have g_r1 : ¬ r = nx + 1 := by omega
  have l_w0 : w < nx := by omega
  refine gen_of_aw (rs := [_, _]) [] [(3, [(4, .r 1), (5, .w [])])] [(1, t)] mixed Try.func27 rfl (by kernel_rfl) (by kernel_rfl) (by simp [Try.ntmps27]) rfl ?_
  unfold pagesG at hl
  by_cases c : root = 0
  · rw [if_pos c] at hl
    injection hl with hl _
    subst hl; subst c
    simp [trB, stB, stR, treO, stoO, thO, Try.results27, e_ts, e_tw, e_sw, l_t0, l_s0, l_r0, l_w0]
    exact ⟨[], by simp [e_ts, e_st, e_tw, e_wt, e_sw, e_ws]⟩
  · rw [if_neg c] at hl
    have c' : (root == 0) = false := by simpa using c
    simp [trB, stB, stR, treO, stoO, thO, c']
    have hp := pages45 t s r w S hS root 40 0 root (nx + 1) nx [] l (h'.up (by omega)) (by omega) (by omega) hroot (by omega) hl hlen
    have hp2 := gen_full (pre := [.obj t 0, .p (.int root), .p (.int ((0 : Nat) : Int))]) (post := []) hp
    refine gcall_of0 hp2 (by simp) (by simp [treO, stoO, thO, sub1, e_st, e_wt, e_ws]) (by simp [sub1]) rfl ?_
    simp [trB, stB, stR, treO, stoO, thO, Try.results27, e_ts, e_st, e_tw, e_wt, e_sw, e_ws, l_t0, l_s0, l_r0, l_w0]
    exact ⟨[], by simp [e_ts, e_st, e_tw, e_wt, e_sw, e_ws, g_r1]⟩
end Go.Av

/-! part W17 -/
namespace Go.Av
open Go.Proofs Go.Tre
set_option maxRecDepth 100000

/-! ### items -/
theorem leafM_mono (frm : Key) (most : Int) (l out : Its) : out.length ≤ (leafM frm most l out).length := by rw [leafM_law]; unfold addI; simp
theorem foldM_mono {g : Int → Its → Its × Int} {most : Int} (hg : ∀ p a, (g p a).2 = 0 → a.length ≤ (g p a).1.length) : ∀ (l : List Int) {a b : Its}, foldM g most l a = (b, 0) → a.length ≤ b.length
  | [], a, b, h => by unfold foldM at h; injection h with h _; rw [h]; exact Nat.le_refl _
  | p :: l, a, b, h => by
    unfold foldM at h
    split at h
    · split at h
      · rename_i h1; exact Nat.le_trans (hg p a h1) (foldM_mono hg l h)
      · rename_i h1; exact absurd (congrArg Prod.snd h) h1
    · injection h with h _; rw [h]; exact Nat.le_refl _
theorem itemsM_mono (S : Sto) (frm : Key) (most : Int) : ∀ (f : Nat) (p : Int) (out : Its), (itemsM S frm most f p out).2 = 0 → out.length ≤ (itemsM S frm most f p out).1.length
  | 0, p, out, h => by simp [itemsM] at h
  | f + 1, p, out, h => by
    unfold itemsM at h ⊢
    split at h
    · rename_i h0
      rw [if_pos h0]
      split at h
      · rename_i h1; rw [if_pos h1]; exact leafM_mono _ _ _ _
      · rename_i h1
        rw [if_neg h1]
        exact foldM_mono (fun p a => itemsM_mono S frm most f p a) _ (b := (foldM (itemsM S frm most f) most ((tload S p).1.vs.drop (childM (tload S p).1 frm)) out).1) (Prod.ext rfl h)
    · rename_i h0; exact absurd h h0

theorem its_cw {l : Its} : ∀ (x : PC) (a : Key) (b : Int), (a, b) ∈ l → itP (a, b) = x → x.width = 2 := by rintro x a b _ rfl; rfl
theorem scan_leaf {n : Nd} {out : Its} {frm : Key} {most : Int} {k : Nat} (hk : k < n.ks.length) (hv : k < n.vs.length) :
    leafM frm most ((n.ks.zip n.vs).drop k) out = leafM frm most ((n.ks.zip n.vs).drop (k + 1)) (if !Op.bytesLess n.ks[k] frm && decide ((out.length : Int) < most) then out ++ [(n.ks[k], n.vs[k])] else out) := by
  have hz : k < (n.ks.zip n.vs).length := by simp; omega
  have e : (n.ks.zip n.vs).drop k = (n.ks[k], n.vs[k]) :: (n.ks.zip n.vs).drop (k + 1) := by
    rw [List.drop_eq_getElem_cons hz]; simp
  rw [e]
  conv => lhs; unfold leafM
set_option maxHeartbeats 2000000 in
theorem items40 (t s r w : Nat) (S : Sto) (hS : SOk S) (root : Int) (frm : Key) (most : Int) : ∀ (f d : Nat) (page : Int) (nx o : Nat) (out out' : Its), Ids4 t s r w nx → o < nx → o ≠ r → i64b page → d + f = 40 → itemsM S frm most f page out = (out', 0) → out'.length ≤ 1000000000 →
    GenC Try.prog 40 [.obj t 0, .p (.int page), .p (.int d), .p (.str frm), .p (.int most), .own o (out.map itP)] ⟨trB t s r w S root, (o, 69, 2) :: stR r, nx⟩ (.agg true [.own nx (out'.map itP), .p (.int 0)]) ⟨trB t s r w S root, (nx, 69, 2) :: stR r, nx + 1⟩ := by
  intro f
  induction f with
  | zero => intro d page nx o out out' _ _ _ _ _ hm _; simp [itemsM] at hm
  | succ f ih =>
  intro d page nx o out out' h ho hor hp hd hm hlen
  have h' := h
  obtain ⟨ht, ⟨hs, hr, hw, sr, sw, rw_⟩, ts, tr, tw⟩ := h
  have e_ts : ¬ t = s := by omega
  have e_st : ¬ s = t := by omega
  have e_tw : ¬ t = w := by omega
  have e_wt : ¬ w = t := by omega
  have e_sw : ¬ s = w := by omega
  have e_ws : ¬ w = s := by omega
  have g_t0 : ¬ t = nx := by omega
  have f_t0 : ¬ nx = t := by omega
  have l_t1 : t < nx + 1 := by omega
  have g_t1 : ¬ t = nx + 1 := by omega
  have f_t1 : ¬ nx + 1 = t := by omega
  have l_t2 : t < nx + 2 := by omega
  have g_s0 : ¬ s = nx := by omega
  have f_s0 : ¬ nx = s := by omega
  have l_s1 : s < nx + 1 := by omega
  have g_s1 : ¬ s = nx + 1 := by omega
  have f_s1 : ¬ nx + 1 = s := by omega
  have l_s2 : s < nx + 2 := by omega
  have g_r0 : ¬ r = nx := by omega
  have f_r0 : ¬ nx = r := by omega
  have l_r1 : r < nx + 1 := by omega
  have g_r1 : ¬ r = nx + 1 := by omega
  have l_r2 : r < nx + 2 := by omega
  have g_r2 : ¬ r = nx + 2 := by omega
  have f_r2 : ¬ nx + 2 = r := by omega
  have g_w0 : ¬ w = nx := by omega
  have f_w0 : ¬ nx = w := by omega
  have l_w1 : w < nx + 1 := by omega
  have g_w1 : ¬ w = nx + 1 := by omega
  have f_w1 : ¬ nx + 1 = w := by omega
  have l_w2 : w < nx + 2 := by omega
  have e_or : ¬ o = r := hor
  have e_ro : ¬ r = o := fun h => hor h.symm
  have c0 : ¬ (40 : Int) ≤ (d : Int) := by omega
  have hsm := tload_small hS page
  unfold itemsM at hm
  refine gen_of_aw (rs := [_, _]) [] [] [] mixed Try.func40 rfl (by kernel_rfl) (by kernel_rfl) (by simp [Try.ntmps40]) rfl ?_
  simp [c0]
  refine gcall_of0 (load46 t s r w nx (h'.up (by omega)) S hS root page hp) (by simp) (by simp [trB, stB, treO, stoO, thO, sub1, e_st, e_wt, e_ws]) (by simp [stR, sub1, e_ro]) rfl ?_
  rcases tload_cases S page with ⟨d1, d2⟩ | ⟨d1, d2⟩
  · rw [if_pos d1] at hm
    generalize tload S page = q at *
    obtain ⟨n, e⟩ := q
    simp only at d1 d2 hm hsm
    subst d1
    have hvl := d2.form
    have hkl := d2.len
    by_cases c2 : n.lf = true
    · rw [if_pos c2] at hm
      injection hm with hm _
      rw [c2] at hvl
      simp only [if_true, Nat.add_zero] at hvl
      simp [trB, stB, stR, treO, stoO, thO, c2, e_st, e_wt, e_ws, f_t0, f_s0, f_w0, e_ro]
      refine aw_loop (fun y : Nat × Its => y.1 ≤ n.ks.length ∧ leafM frm most ((n.ks.zip n.vs).drop y.1) y.2 = out')
        (fun y => [(3, .p (.str frm)), (4, .p (.int most)), (5, .own nx (y.2.map itP)), (14, .obj (nx + 1) 0), (33, .p (.sl (n.ks.map PC.str))), (34, .p (.int n.ks.length)), (35, .p (.int y.1))])
        (fun y => ⟨[(nx + 1, ⟨56, 3, [.p (.bool true), .p (.sl (n.ks.map PC.str)), .p (.sl (n.vs.map PC.int))]⟩), (t, treO s root), (s, stoO r w S), (w, thO S)], [(nx, 69, 2), (r, 56, 3)], nx + 2⟩) (fun y => n.ks.length - y.1) (0, out) ⟨by simp, by simpa using hm⟩ _ (AS.le_refl _ _) (leN_of [(nx, o), (nx + 1, nx)] (by simp [treO, stoO, thO, e_ts, e_st, e_tw, e_wt, e_sw, e_ws, g_t0, f_t0, g_t1, f_t1, l_t2, g_s0, f_s0, g_s1, f_s1, l_s2, g_r0, f_r0, g_r1, l_r2, g_w0, f_w0, g_w1, f_w1, l_w2, e_or])) ?_
      rintro ⟨k, cur⟩ ⟨g1, g2⟩
      simp only at g1 g2
      by_cases c3 : k < n.ks.length
      · have c3v : k < n.vs.length := by omega
        rw [scan_leaf c3 c3v] at g2
        have hmo := leafM_mono frm most ((n.ks.zip n.vs).drop (k + 1)) (if !Op.bytesLess n.ks[k] frm && decide ((cur.length : Int) < most) then cur ++ [(n.ks[k], n.vs[k])] else cur)
        rw [g2] at hmo
        have wk : IntKind.i64.wrap ((k : Int) + 1) = ((k + 1 : Nat) : Int) := by rw [wrap64_id (by omega) (by omega)]; rfl
        by_cases c4 : Op.bytesLess n.ks[k] frm = true
        · simp [c4] at g2
          simp [c3, c4, wk, treO, stoO, thO]
          exact ⟨k + 1, cur, ⟨by omega, g2⟩, by omega, leN_id (by simp [e_ts, e_st, e_tw, e_wt, e_sw, e_ws, g_t1, f_t1, l_t2, g_s1, f_s1, l_s2, g_r0, f_r0, l_r2, g_w1, f_w1, l_w2])⟩
        · have c4' : Op.bytesLess n.ks[k] frm = false := by simpa using c4
          by_cases c5 : (cur.length : Int) < most
          · simp [c4', c5] at g2 hmo
            simp [c3, c3v, c4', c5, wk, treO, stoO, thO, f_r0]
            exact ⟨its_cw, by omega, by omega, k + 1, cur ++ [(n.ks[k], n.vs[k])], ⟨by omega, g2⟩, by omega, leN_of [(nx, nx + 2)] (by simp [e_ts, e_st, e_tw, e_wt, e_sw, e_ws, g_t0, g_t1, f_t1, l_t2, g_s0, g_s1, f_s1, l_s2, g_r0, f_r0, l_r2, g_r2, f_r2, g_w0, g_w1, f_w1, l_w2])⟩
          · simp [c4', c5] at g2
            simp [c3, c4', c5, wk, treO, stoO, thO]
            exact ⟨k + 1, cur, ⟨by omega, g2⟩, by omega, leN_id (by simp [e_ts, e_st, e_tw, e_wt, e_sw, e_ws, g_t1, f_t1, l_t2, g_s1, f_s1, l_s2, g_r0, f_r0, l_r2, g_w1, f_w1, l_w2])⟩
      · have e : k = n.ks.length := by omega
        subst e
        rw [List.drop_of_length_le (by simp; omega)] at g2
        unfold leafM at g2
        subst g2
        simp [treO, stoO, thO, Try.results40, e_ts, e_tw, e_sw, l_t1, l_s1, f_r0, l_r1, l_w1]
        exact ⟨[], by simp [e_ts, e_st, e_tw, e_wt, e_sw, e_ws, g_t1, g_s1, g_r0, f_r0, g_w1]⟩
    · have c2' : n.lf = false := Bool.eq_false_iff.2 c2
      rw [if_neg c2] at hm
      have hchb := childB n frm (by omega)
      have hcl := childM_le n frm
      rw [c2'] at hvl
      simp only [Bool.false_eq_true, if_false] at hvl
      have wd : IntKind.i64.wrap ((d : Int) + 1) = ((d + 1 : Nat) : Int) := by rw [wrap64_id (by omega) (by omega)]; rfl
      simp [trB, stB, stR, treO, stoO, thO, c2', e_st, e_wt, e_ws, f_t0, f_s0, f_w0, e_ro]
      refine pcall_of hchb (by simp [c2']) ?_
      simp
      refine aw_loop (fun y : Nat × Its => y.1 ≤ n.vs.length ∧ foldM (itemsM S frm most f) most (n.vs.drop y.1) y.2 = (out', 0))
        (fun y => [(0, .obj t 0), (2, .p (.int d)), (3, .p (.str frm)), (4, .p (.int most)), (5, .own nx (y.2.map itP)), (14, .obj (nx + 1) 0), (18, .p (.int y.1))])
        (fun y => ⟨[(nx + 1, ⟨56, 3, [.p (.bool false), .p (.sl (n.ks.map PC.str)), .p (.sl (n.vs.map PC.int))]⟩), (t, treO s root), (s, stoO r w S), (w, thO S)], [(nx, 69, 2), (r, 56, 3)], nx + 2⟩) (fun y => n.vs.length - y.1) (childM n frm, out) ⟨by simp; omega, hm⟩ _ (AS.le_refl _ _) (leN_of [(nx, o), (nx + 1, nx)] (by simp [treO, stoO, thO, e_ts, e_st, e_tw, e_wt, e_sw, e_ws, g_t0, f_t0, g_t1, f_t1, l_t2, g_s0, f_s0, g_s1, f_s1, l_s2, g_r0, f_r0, g_r1, l_r2, g_w0, f_w0, g_w1, f_w1, l_w2, e_or])) ?_
      rintro ⟨k, cur⟩ ⟨g1, g2⟩
      simp only at g1 g2
      by_cases c3 : k < n.vs.length
      · rw [List.drop_eq_getElem_cons c3] at g2
        by_cases c5 : (cur.length : Int) < most
        · unfold foldM at g2
          rw [if_pos c5] at g2
          have g3 : (itemsM S frm most f n.vs[k] cur).2 = 0 := by
            by_cases g3 : (itemsM S frm most f n.vs[k] cur).2 = 0
            · exact g3
            · rw [if_neg g3] at g2; exact absurd (congrArg Prod.snd g2) g3
          rw [if_pos g3] at g2
          have hcur := itemsM_mono S frm most f n.vs[k] cur g3
          have hnext := foldM_mono (fun p a => itemsM_mono S frm most f p a) _ g2
          have hvv := d2.vals n.vs[k] (List.getElem_mem c3)
          have wk : IntKind.i64.wrap ((k : Int) + 1) = ((k + 1 : Nat) : Int) := by rw [wrap64_id (by omega) (by omega)]; rfl
          simp [c3, c5, wd, treO, stoO, thO]
          refine gcall_of0 (ih (d + 1) n.vs[k] (nx + 2) nx cur (itemsM S frm most f n.vs[k] cur).1 (h'.up (by omega)) (by omega) (by omega) ⟨by have := hvv.1; omega, by have := hvv.2; omega⟩ (by omega) (Prod.ext rfl g3) (by omega)) (by simp) (by simp [treO, stoO, thO, sub1, e_st, e_wt, e_ws, g_t1, g_s1, g_w1]) (by simp [sub1, g_r0]) rfl ?_
          simp [trB, stB, stR, treO, stoO, thO, wk, e_st, e_wt, e_ws, g_t1, g_s1, g_r0, g_w1]
          exact ⟨k + 1, (itemsM S frm most f n.vs[k] cur).1, ⟨by omega, g2⟩, by omega, leN_of [(nx, nx + 2)] (by simp [e_ts, e_st, e_tw, e_wt, e_sw, e_ws, g_t0, f_t1, l_t2, g_s0, f_s1, l_s2, g_r0, f_r0, l_r2, g_r2, f_r2, g_w0, f_w1, l_w2])⟩
        · unfold foldM at g2
          rw [if_neg c5] at g2
          injection g2 with g2 _
          subst g2
          simp [c3, c5, treO, stoO, thO, Try.results40, e_ts, e_tw, e_sw, l_t1, l_s1, f_r0, l_r1, l_w1]
          exact ⟨[], by simp [e_ts, e_st, e_tw, e_wt, e_sw, e_ws, g_t1, g_s1, g_r0, f_r0, g_w1]⟩
      · have e : k = n.vs.length := by omega
        subst e
        rw [List.drop_length] at g2
        unfold foldM at g2
        injection g2 with g2 _
        subst g2
        simp [treO, stoO, thO, Try.results40, e_ts, e_tw, e_sw, l_t1, l_s1, f_r0, l_r1, l_w1]
        exact ⟨[], by simp [e_ts, e_st, e_tw, e_wt, e_sw, e_ws, g_t1, g_s1, g_r0, f_r0, g_w1]⟩
  · exfalso
    rw [if_neg (by omega)] at hm
    have := congrArg Prod.snd hm
    simp only at this; omega

set_option maxHeartbeats 1000000 in
theorem scan15 (t s r w nx : Nat) (h : Ids4 t s r w nx) (S : Sto) (hS : SOk S) (root : Int) (hroot : i64b root) (frm : Key) (most : Int) (l : Its) (hl : scanM S root frm most = (l, 0)) (hlen : l.length ≤ 1000000000) :
    GenC Try.prog 15 [.obj t 0, .p (.str frm), .p (.int most)] ⟨trB t s r w S root, stR r, nx⟩ (.agg true [.p (itsP l), .p (.int 0)]) ⟨trB t s r w S root, stR r, nx⟩ := by
  have h' := h
  obtain ⟨ht, ⟨hs, hr, hw, sr, sw, rw_⟩, ts, tr, tw⟩ := h
  have e_ts : ¬ t = s := by omega
  have e_st : ¬ s = t := by omega
  have e_tw : ¬ t = w := by omega
  have e_wt : ¬ w = t := by omega
  have e_sw : ¬ s = w := by omega
  have e_ws : ¬ w = s := by omega
  have l_t0 : t < nx := by omega
  have l_s0 : s < nx := by omega
  have l_r0 : r < nx := by omega
  have g_r1 : ¬ r = nx + 1 := by omega
  have l_w0 : w < nx := by omega
  refine gen_of_aw (rs := [_, _]) [] [] [] mixed Try.func15 rfl (by kernel_rfl) (by kernel_rfl) (by simp [Try.ntmps15]) rfl ?_
  unfold scanM at hl
  by_cases c : root = 0
  · rw [if_pos (.inl c)] at hl
    injection hl with hl _
    subst hl; subst c
    simp [trB, stB, stR, treO, stoO, thO, Try.results15, e_ts, e_tw, e_sw, l_t0, l_s0, l_r0, l_w0]
    exact ⟨[], by simp [e_ts, e_st, e_tw, e_wt, e_sw, e_ws]⟩
  · have c' : (root == 0) = false := by simpa using c
    by_cases cm : most < 1
    · rw [if_pos (.inr cm)] at hl
      injection hl with hl _
      subst hl
      simp [trB, stB, stR, treO, stoO, thO, c', cm, Try.results15, e_ts, e_tw, e_sw, l_t0, l_s0, l_r0, l_w0]
      exact ⟨[], by simp [e_ts, e_st, e_tw, e_wt, e_sw, e_ws]⟩
    · rw [if_neg (by rintro (h | h); exact c h; exact cm h)] at hl
      simp [trB, stB, stR, treO, stoO, thO, c', cm]
      have hp := items40 t s r w S hS root frm most 40 0 root (nx + 1) nx [] l (h'.up (by omega)) (by omega) (by omega) hroot (by omega) hl hlen
      have hp2 := gen_full (pre := [.obj t 0, .p (.int root), .p (.int ((0 : Nat) : Int)), .p (.str frm), .p (.int most)]) (post := []) hp
      refine gcall_of0 hp2 (by simp) (by simp [treO, stoO, thO, sub1, e_st, e_wt, e_ws]) (by simp [sub1]) rfl ?_
      simp [trB, stB, stR, treO, stoO, thO, Try.results15, e_ts, e_st, e_tw, e_wt, e_sw, e_ws, l_t0, l_s0, l_r0, l_w0]
      exact ⟨[], by simp [e_ts, e_st, e_tw, e_wt, e_sw, e_ws, g_r1]⟩
end Go.Av
