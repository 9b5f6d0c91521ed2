/- What start.Response and the document's Request and Response compute; that they agree. -/
import Derived.Test.YtpffiikopcpgfaaDoorDc
set_option linter.all false
/-! part Q21 -/
namespace Go.Av
open Go.Proofs

def rreqB (b : List UInt8) : StV × Int × Int :=
  let x := lineB b 8200
  if x.2.2 = 0 then rreqS x.2.1 x.1 else (st0, 0, x.2.2)
theorem rreq_eq (b : List UInt8) : rreqB b = reqB b := by
  unfold rreqB reqB
  simp only
  split
  · rw [req_same]
  · rfl
theorem lineB_len (b : List UInt8) (most : Nat) : (lineB b most).1.length ≤ b.length := by
  unfold lineB; simp only
  split
  · split <;> simp
  · split
    · simp; try omega
    · simp; try omega
set_option maxHeartbeats 2000000 in
set_option maxRecDepth 100000 in
theorem rrequest20 (b : List UInt8) (hb : b.length ≤ 1000000) : PureC Tryd.prog 20 [.sl (bytesPC b)] (.tp [stP (rreqB b).1, .int (rreqB b).2.1, .int (rreqB b).2.2]) := by
  have hL := rline55 b 8200 (by omega) (by omega)
  have hlen := lineB_len b 8200
  unfold rreqB
  simp only
  generalize lineB b 8200 = x at *
  obtain ⟨s, n, e⟩ := x
  simp only at hL hlen ⊢
  refine pure_of_aw (ys := [_, _, _]) [] [(11, [(12, .w []), (13, .w [])])] [] mixed Tryd.func20 rfl (by kernel_rfl) (by kernel_rfl) (by simp [Tryd.ntmps20]) rfl ?_
  simp
  refine pcall_of hL (by simp) ?_
  by_cases he : e = 0
  case neg =>
    have hd : (e != 0) = true := by simpa using he
    simp [he, hd, Tryd.results20, st0]
  subst he
  simp
  refine pcall_of (space56 s (by omega)) (by simp) ?_
  generalize hR : rreqS n s = R
  unfold rreqS at hR
  have hle := spI_le s
  by_cases c1 : spI s = s.length
  · rw [if_pos c1] at hR
    subst hR
    simp [c1, st0, Tryd.results20]
  rw [if_neg c1] at hR
  have d1 : ((spI s : Int) == (s.length : Int)) = false := by simp; omega
  have w1 : IntKind.i64.wrap ((spI s : Int) + 1) = ((spI s + 1 : Nat) : Int) := by rw [wrap64_id (by omega) (by omega)]; simp
  have hs1 : spI s + 1 ≤ s.length := by omega
  have p1 : (0 : Int) ≤ (spI s : Int) + 1 := by omega
  simp only at hR
  obtain ⟨t, ht⟩ : ∃ t, t = s.drop (spI s + 1) := ⟨_, rfl⟩
  have htl : t.length ≤ s.length := by rw [ht, List.length_drop]; omega
  rw [← ht] at hR
  simp [c1, d1, w1, hs1, p1, ← ht]
  refine pcall_of (space56 t (by omega)) (by simp) ?_
  have hle2 := spI_le t
  by_cases c2 : spI t = t.length
  · rw [if_pos c2] at hR
    subst hR
    simp [c2, st0, Tryd.results20]
  rw [if_neg c2] at hR
  have d2 : ((spI t : Int) == (t.length : Int)) = false := by simp; omega
  have w2 : IntKind.i64.wrap ((spI t : Int) + 1) = ((spI t + 1 : Nat) : Int) := by rw [wrap64_id (by omega) (by omega)]; simp
  have hs2 : spI t + 1 ≤ t.length := by omega
  have p2 : (0 : Int) ≤ (spI t : Int) + 1 := by omega
  obtain ⟨x, hx⟩ : ∃ x, x = s.take (spI s) := ⟨_, rfl⟩
  obtain ⟨y, hy⟩ : ∃ y, y = t.take (spI t) := ⟨_, rfl⟩
  obtain ⟨z, hz⟩ : ∃ z, z = t.drop (spI t + 1) := ⟨_, rfl⟩
  rw [← hx, ← hy, ← hz] at hR
  have hxl : x.length ≤ 1000000 := by rw [hx, List.length_take]; omega
  have hyl : y.length ≤ 1000000 := by rw [hy, List.length_take]; omega
  simp [c2, d2, w2, hs2, hle, hle2, p2, ← hx, ← hy, ← hz]
  refine call_of (rminor57 z) ?_
  cases hm : minB z with
  | none =>
    rw [hm] at hR
    subst hR
    simp [st0, Tryd.results20]
  | some k =>
  rw [hm] at hR
  simp only at hR
  have dk : ¬ (k : Int) < 0 := by omega
  simp [dk]
  refine pcall_of (rtoken31 tchar70 x (by omega)) (by simp) ?_
  cases htk : tkB x with
  | false =>
    rw [if_neg (by simp [htk])] at hR
    subst hR
    simp [st0, Tryd.results20]
  | true =>
  simp
  refine pcall_of (rvisible58 y (by omega)) (by simp) ?_
  cases hvs : visB y with
  | false =>
    rw [if_neg (by simp [hvs])] at hR
    subst hR
    simp [st0, Tryd.results20]
  | true =>
  rw [if_pos ⟨htk, hvs⟩] at hR
  by_cases l1 : x.length ≤ 32
  case neg =>
    have e2 : (32 : Int) < (x.length : Int) := by omega
    rw [if_neg (by omega)] at hR
    subst hR
    simp [e2, show 32 < x.length by omega, st0, Tryd.results20]
  have e1 : ¬ (32 : Int) < (x.length : Int) := by omega
  by_cases l2 : y.length ≤ 8000
  case neg =>
    have e2 : (8000 : Int) < (y.length : Int) := by omega
    rw [if_neg (by omega)] at hR
    subst hR
    simp [e1, e2, show ¬ 32 < x.length by omega, show 8000 < y.length by omega, st0, Tryd.results20]
  have e2 : ¬ (8000 : Int) < (y.length : Int) := by omega
  rw [if_pos ⟨l1, l2⟩] at hR
  subst hR
  simp [e1, e2, show ¬ 32 < x.length by omega, show ¬ 8000 < y.length by omega, Tryd.results20]
end Go.Av

/-! part Q22 -/
namespace Go.Av
open Go.Proofs

def resP (n : Int) : List (List UInt8) → StV × Int × Int
  | [a, b, c] => (match minB a with
    | none => (st0, 0, 10)
    | some k => if (numB 999 b).2 = 0 ∧ b.length = 3 ∧ 100 ≤ (numB 999 b).1 ∧ valB c = true then (if c.length ≤ 200 then (⟨[], [], (numB 999 b).1, c, k⟩, n, 0) else (st0, 0, 12)) else (st0, 0, 10))
  | _ => (st0, 0, 10)
def resB (b : List UInt8) : StV × Int × Int :=
  let x := lineB b 300
  if x.2.2 = 0 then resP x.2.1 (splB 32 (min 3 (x.1.length + 1) - 1) x.1) else (st0, 0, x.2.2)
set_option maxHeartbeats 2000000 in
set_option maxRecDepth 100000 in
theorem response21 (b : List UInt8) (hb : b.length ≤ 1000000) : PureC Tryd.prog 21 [.sl (bytesPC b)] (.tp [stP (resB b).1, .int (resB b).2.1, .int (resB b).2.2]) := by
  have hL := line50 b 300 (by omega) (by omega)
  have hlen := lineB_len b 300
  unfold resB
  simp only
  generalize lineB b 300 = x at *
  obtain ⟨s, n, e⟩ := x
  simp only at hL hlen ⊢
  refine pure_of_aw (ys := [_, _, _]) [] [] [] mixed Tryd.func21 rfl (by kernel_rfl) (by kernel_rfl) (by simp [Tryd.ntmps21]) rfl ?_
  simp
  refine pcall_of hL (by simp) ?_
  by_cases he : e = 0
  case neg =>
    have hd : (e != 0) = true := by simpa using he
    simp [he, hd, Tryd.results21, st0]
  subst he
  simp
  refine pcall_of (splitN59 s 32 3 (by omega) (by omega) (by omega)) (by simp) ?_
  have hpl := splB_len 32 s (min 3 (s.length + 1) - 1)
  generalize splB 32 (min 3 (s.length + 1) - 1) s = p at *
  generalize hR : resP n p = R
  by_cases h3 : p.length = 3
  case neg =>
    have hd : ((p.length : Int) != 3) = true := by simp; omega
    have hr : resP n p = (st0, 0, 10) := by
      unfold resP
      split
      · simp at h3
      · rfl
    rw [hr] at hR
    subst hR
    simp [hd, st0, Tryd.results21]
  match p, h3, hpl with
  | [x, y, z], _, hpl =>
  have hx := hpl x (by simp)
  have hy := hpl y (by simp)
  have hz := hpl z (by simp)
  simp only [resP] at hR
  simp
  refine pcall_of (minor54 x) (by simp) ?_
  simp
  refine pcall_of (number60 y 999 (by omega) (by omega) (by omega)) (by simp) ?_
  cases hm : minB x with
  | none =>
    rw [hm] at hR
    subst hR
    simp [st0, Tryd.results21]
  | some k =>
  rw [hm] at hR
  simp only at hR
  generalize numB 999 y = q at *
  obtain ⟨v, f⟩ := q
  simp only at hR ⊢
  by_cases c1 : f = 0
  case neg =>
    have d1 : (f != 0) = true := by simpa using c1
    rw [if_neg (by simp [c1])] at hR
    subst hR
    simp [c1, d1, st0, Tryd.results21]
  subst c1
  by_cases c2 : y.length = 3
  case neg =>
    have d2 : ((y.length : Int) != 3) = true := by simp; omega
    rw [if_neg (by simp [c2])] at hR
    subst hR
    simp [c2, d2, st0, Tryd.results21]
  by_cases c3 : 100 ≤ v
  case neg =>
    have d3 : v < 100 := by omega
    rw [if_neg (by omega)] at hR
    subst hR
    simp [c2, c3, d3, st0, Tryd.results21]
  have d3 : ¬ v < 100 := by omega
  simp [c2, c3, d3]
  refine pcall_of (value61 z (by omega)) (by simp) ?_
  cases c4 : valB z with
  | false =>
    rw [if_neg (by simp [c4])] at hR
    subst hR
    simp [st0, Tryd.results21]
  | true =>
  rw [if_pos ⟨rfl, c2, c3, c4⟩] at hR
  by_cases l1 : z.length ≤ 200
  case neg =>
    have e2 : (200 : Int) < (z.length : Int) := by omega
    rw [if_neg l1] at hR
    subst hR
    simp [e2, show 200 < z.length by omega, st0, Tryd.results21]
  have e2 : ¬ (200 : Int) < (z.length : Int) := by omega
  rw [if_pos l1] at hR
  subst hR
  simp [e2, show ¬ 200 < z.length by omega, Tryd.results21]
end Go.Av

/-! part Q23 -/
namespace Go.Av
open Go.Proofs

def rresS (n : Int) (s : List UInt8) : StV × Int × Int :=
  if s.length < 13 ∨ s[8]? ≠ some 32 ∨ s[12]? ≠ some 32 then (st0, 0, 10) else
  let q := numB 999 ((s.take 12).drop 9)
  if q.2 ≠ 0 ∨ q.1 < 100 then (st0, 0, 10) else
  match minB (s.take 8) with
  | none => (st0, 0, 10)
  | some k => if rvalB (s.drop 13) = true then (if (s.drop 13).length ≤ 200 then (⟨[], [], q.1, s.drop 13, k⟩, n, 0) else (st0, 0, 12)) else (st0, 0, 10)
def rresB (b : List UInt8) : StV × Int × Int :=
  let x := lineB b 300
  if x.2.2 = 0 then rresS x.2.1 x.1 else (st0, 0, x.2.2)
set_option maxHeartbeats 2000000 in
set_option maxRecDepth 100000 in
theorem rresponse22 (b : List UInt8) (hb : b.length ≤ 1000000) : PureC Tryd.prog 22 [.sl (bytesPC b)] (.tp [stP (rresB b).1, .int (rresB b).2.1, .int (rresB b).2.2]) := by
  have hL := rline55 b 300 (by omega) (by omega)
  have hlen := lineB_len b 300
  unfold rresB
  simp only
  generalize lineB b 300 = x at *
  obtain ⟨s, n, e⟩ := x
  simp only at hL hlen ⊢
  refine pure_of_aw (ys := [_, _, _]) [] [(7, [(7, .w []), (8, .w [])])] [] mixed Tryd.func22 rfl (by kernel_rfl) (by kernel_rfl) (by simp [Tryd.ntmps22]) rfl ?_
  simp
  refine pcall_of hL (by simp) ?_
  by_cases he : e = 0
  case neg =>
    have hd : (e != 0) = true := by simpa using he
    simp [he, hd, Tryd.results22, st0]
  subst he
  generalize hR : rresS n s = R
  unfold rresS at hR
  by_cases c1 : s.length < 13
  · have d1 : (s.length : Int) < 13 := by omega
    rw [if_pos (.inl c1)] at hR
    subst hR
    simp [c1, d1, st0, Tryd.results22]
  have d1 : ¬ (s.length : Int) < 13 := by omega
  have g8 : s[8]? = some (s[8]'(by omega)) := List.getElem?_eq_getElem _
  have g12 : s[12]? = some (s[12]'(by omega)) := List.getElem?_eq_getElem _
  have i8 : 8 < s.length := by omega
  have i12 : 12 < s.length := by omega
  have ne : ∀ c : UInt8, c ≠ 32 → ((c.toNat : Int) != 32) = true := fun c h => by
    simp; intro h'; apply h; apply UInt8.toNat_inj.1; exact Int.ofNat_inj.1 h'
  by_cases c2 : s[8]'i8 = 32
  case neg =>
    rw [if_pos (.inr (.inl (by rw [g8]; simpa using c2)))] at hR
    subst hR
    simp [c1, d1, i8, c2, ne _ c2, st0, Tryd.results22]
  by_cases c3 : s[12]'i12 = 32
  case neg =>
    rw [if_pos (.inr (.inr (by rw [g12]; simpa using c3)))] at hR
    subst hR
    simp [c1, d1, i8, i12, c2, c3, ne _ c3, st0, Tryd.results22]
  rw [if_neg (by rw [g8, g12, c2, c3]; simp [c1])] at hR
  obtain ⟨x, hx⟩ : ∃ x, x = s.take 8 := ⟨_, rfl⟩
  obtain ⟨y, hy⟩ : ∃ y, y = (s.take 12).drop 9 := ⟨_, rfl⟩
  obtain ⟨z, hz⟩ : ∃ z, z = s.drop 13 := ⟨_, rfl⟩
  rw [← hx, ← hy, ← hz] at hR
  have hyl : y.length ≤ 12 := by rw [hy, List.length_drop, List.length_take]; omega
  have hzl : z.length ≤ 1000000 := by rw [hz, List.length_drop]; omega
  have m12 : 12 ≤ s.length := by omega
  have m13 : 13 ≤ s.length := by omega
  have m8 : 8 ≤ s.length := by omega
  simp [c1, d1, i8, i12, c2, c3, m12, m13, m8, ← hy]
  refine pcall_of (rnumber30 y 999 (by omega) (by omega) (by omega)) (by simp) ?_
  simp [m13, m8, ← hx, ← hz]
  refine call_of (rminor57 x) ?_
  generalize numB 999 y = q at *
  obtain ⟨v, f⟩ := q
  simp only at hR ⊢
  by_cases c4 : f = 0
  case neg =>
    have d4 : (f != 0) = true := by simpa using c4
    rw [if_pos (.inl c4)] at hR
    subst hR
    simp [c4, d4, st0, Tryd.results22]
  subst c4
  by_cases c5 : v < 100
  · rw [if_pos (.inr c5)] at hR
    subst hR
    simp [c5, st0, Tryd.results22]
  rw [if_neg (by simp; omega)] at hR
  cases hm : minB x with
  | none =>
    rw [hm] at hR
    subst hR
    simp [c5, st0, Tryd.results22]
  | some k =>
  rw [hm] at hR
  simp only at hR
  have dk : ¬ (k : Int) < 0 := by omega
  simp [c5, dk]
  refine pcall_of (rvalue62 z (by omega)) (by simp) ?_
  cases hv : rvalB z with
  | false =>
    rw [if_neg (by simp [hv])] at hR
    subst hR
    simp [st0, Tryd.results22]
  | true =>
  rw [if_pos hv] at hR
  by_cases l1 : z.length ≤ 200
  case neg =>
    have e2 : (200 : Int) < (z.length : Int) := by omega
    rw [if_neg l1] at hR
    subst hR
    simp [e2, show 200 < z.length by omega, st0, Tryd.results22]
  have e2 : ¬ (200 : Int) < (z.length : Int) := by omega
  rw [if_pos l1] at hR
  subst hR
  simp [e2, show ¬ 200 < z.length by omega, Tryd.results22]
end Go.Av

/-! part Q24 -/
namespace Go.Av
open Go.Proofs

theorem trimB_le (l : List UInt8) : (trimB l).length ≤ l.length := Nat.le_trans (trimL_le _) (trimR_le _)
theorem trim_iff (a : UInt8) (m : List UInt8) : (trimB (a :: m) == a :: m) = (!(blO a) && !(blO ((a :: m).getLastD 0))) := by
  have hsp : ∃ p z, a :: m = p ++ [z] ∧ (a :: m).getLastD 0 = z := by
    rcases List.eq_nil_or_concat (a :: m) with h | ⟨p, z, h⟩
    · cases h
    · refine ⟨p, z, by simpa using h, ?_⟩
      rw [h]; simp
  obtain ⟨p, z, e, ez⟩ := hsp
  rw [ez]
  have hne : ∀ x : List UInt8, x.length < (a :: m).length → (x == a :: m) = false := fun x h => by
    rw [beq_eq_false_iff_ne]; rintro rfl; omega
  have hR := trimR_snoc p z
  rw [← e] at hR
  cases hz : blO z with
  | true =>
    rw [hz, if_pos rfl] at hR
    rw [hne (trimB (a :: m))]
    · simp
    · unfold trimB
      rw [hR]
      have h1 := trimL_le (trimR p)
      have h2 := trimR_le p
      have h3 := congrArg List.length e
      simp at h3
      simp; omega
  | false =>
    rw [hz, if_neg (by simp)] at hR
    try rw [← e] at hR
    unfold trimB
    rw [hR]
    cases ha : blO a with
    | true =>
      rw [hne]
      · simp
      · have : trimL (a :: m) = trimL m := by unfold trimL; rw [List.dropWhile_cons, ha]; rfl
        rw [this]
        have := trimL_le m
        simp; omega
    | false =>
      have : trimL (a :: m) = a :: m := by unfold trimL; rw [List.dropWhile_cons, ha]; rfl
      rw [this]; simp
theorem val_same (l : List UInt8) : valB l = rvalB l := by
  unfold valB rvalB
  cases l with
  | nil => simp [trimB, trimR, trimL]
  | cons a m => rw [trim_iff]; simp
theorem minB_some {l : List UInt8} {k : Nat} (h : minB l = some k) : l.length = 8 ∧ l.count 32 = 0 ∧ tkB l = false := by
  unfold minB at h
  split at h
  · rename_i e; subst e; exact ⟨rfl, rfl, by kernel_rfl⟩
  · split at h
    · rename_i e; subst e; exact ⟨rfl, rfl, by kernel_rfl⟩
    · cases h
theorem spI_first {l : List UInt8} {k : Nat} (h : l[k]? = some 32) (h0 : (l.take k).count 32 = 0) : spI l = k := by
  have hk := (List.getElem?_eq_some_iff.1 h).1
  refine spI_eq (by omega) (fun c hc => ?_) (fun hh => ?_)
  · have := List.count_eq_zero.1 h0
    simp only [bne_iff_ne, ne_eq]
    rintro rfl; exact this hc
  · have e := (List.getElem?_eq_some_iff.1 h).2
    rw [e]; rfl
theorem num_blank {l : List UInt8} (h : l.count 32 ≠ 0) (m : Nat) : (numB m l).2 ≠ 0 := by
  have hm : (32 : UInt8) ∈ l := by
    apply Classical.byContradiction
    intro hh; exact h (List.count_eq_zero.2 hh)
  unfold numB
  rw [if_pos]
  · simp
  · right
    rw [List.all_eq_false]
    exact ⟨32, hm, by decide⟩
theorem ixB_cons (b : UInt8) (l : List UInt8) (c : UInt8) : ixB (b :: l) c = if b = c then 0 else if ixB l c < 0 then -1 else ixB l c + 1 := by
  have e1 := ixB_ge l c
  unfold ixB at *
  by_cases h : b = c
  · simp [Go.Lib.indexByte, h]
  · simp [Go.Lib.indexByte, h]
    by_cases hz : Go.Lib.indexByte l c = -1
    · simp [hz]
    · rw [if_neg hz, if_neg (by omega)]
theorem ixB_at (l : List UInt8) (c : UInt8) (h : 0 ≤ ixB l c) : l[(ixB l c).toNat]? = some c := by
  induction l with
  | nil => simp [ixB, Go.Lib.indexByte] at h
  | cons b l ih =>
    rw [ixB_cons] at h ⊢
    by_cases hb : b = c
    · simp [hb]
    · rw [if_neg hb] at h ⊢
      by_cases hh : ixB l c < 0
      · rw [if_pos hh] at h; omega
      · rw [if_neg hh] at h ⊢
        have e : (ixB l c + 1).toNat = (ixB l c).toNat + 1 := by omega
        rw [e, List.getElem?_cons_succ]
        exact ih (by omega)
theorem ixB_append (l m : List UInt8) (c : UInt8) (h : 0 ≤ ixB l c) : ixB (l ++ m) c = ixB l c := by
  induction l with
  | nil => simp [ixB, Go.Lib.indexByte] at h
  | cons b l ih =>
    rw [List.cons_append, ixB_cons, ixB_cons] at *
    by_cases hb : b = c
    · simp [hb]
    · rw [if_neg hb] at h
      by_cases hh : ixB l c < 0
      · rw [if_pos hh] at h; omega
      · rw [ih (by omega)]
theorem spI_split {l : List UInt8} (h : spI l < l.length) : l = l.take (spI l) ++ 32 :: l.drop (spI l + 1) := by
  have h1 : l[spI l] = 32 := by
    rcases sp_cases l with ⟨a, _⟩ | ⟨_, b, _⟩
    · omega
    · have := ixB_at l 32 (by rw [b]; omega)
      rw [b] at this
      simp only [Int.toNat_natCast] at this
      have e := List.getElem?_eq_getElem h
      rw [this] at e; injection e with e; exact e.symm
  conv => lhs; rw [← List.take_append_drop (spI l) l, List.drop_eq_getElem_cons h, h1]
theorem splB_none (c : UInt8) (k : Nat) (l : List UInt8) (h : ixB l c = -1) : splB c k l = [l] := by
  cases k with
  | zero => rfl
  | succ k => unfold splB; rw [h, if_pos (by omega)]
theorem splB_some (k : Nat) (l : List UInt8) (h : ixB l 32 = spI l) : splB 32 (k + 1) l = l.take (spI l) :: splB 32 k (l.drop (spI l + 1)) := by
  conv => lhs; unfold splB
  rw [h, if_neg (by omega)]; simp only [Int.toNat_natCast]
theorem resP_not3 (n : Int) (p : List (List UInt8)) (h : p.length ≠ 3) : resP n p = (st0, 0, 10) := by
  unfold resP
  split
  · exact absurd rfl h
  · rfl
theorem count_at {l : List UInt8} {k : Nat} (h : l[k]? = some 32) : l.count 32 ≠ 0 := by
  have := (List.getElem?_eq_some_iff.1 h)
  obtain ⟨hk, e⟩ := this
  intro h0
  exact List.count_eq_zero.1 h0 (e ▸ List.getElem_mem hk)
theorem rres_two {s : List UInt8} (h8 : s[8]? = some 32) (h12 : s[12]? = some 32) : 2 ≤ s.count 32 := by
  have e : s = s.take 9 ++ s.drop 9 := (List.take_append_drop 9 s).symm
  rw [e, List.count_append]
  have a1 : (s.take 9)[8]? = some 32 := by rw [List.getElem?_take, if_pos (by omega)]; exact h8
  have a2 : (s.drop 9)[3]? = some 32 := by rw [List.getElem?_drop]; exact h12
  have := count_at a1
  have := count_at a2
  omega
theorem rresS_blank (n : Int) {s : List UInt8} (h : s.count 32 < 2) : rresS n s = (st0, 0, 10) := by
  unfold rresS
  rw [if_pos]
  apply Classical.byContradiction
  intro hh
  simp only [not_or, Decidable.not_not] at hh
  have := rres_two hh.2.1 hh.2.2
  omega
theorem res_same (n : Int) (s : List UInt8) : resP n (splB 32 (min 3 (s.length + 1) - 1) s) = rresS n s := by
  rcases sp_cases s with ⟨h1, h2, h3⟩ | ⟨h1, h2, h3, h4⟩
  · rw [splB_none _ _ _ h3, resP_not3 _ _ (by simp), rresS_blank _ (by omega)]
  have hs := spI_split h1
  obtain ⟨K, hK⟩ : ∃ K, min 3 (s.length + 1) - 1 = K + 1 := ⟨min 3 (s.length + 1) - 2, by omega⟩
  rw [hK, splB_some K s h2]
  rcases sp_cases (s.drop (spI s + 1)) with ⟨k1, k2, k3⟩ | ⟨k1, k2, k3, k4⟩
  · rw [splB_none _ _ _ k3, resP_not3 _ _ (by simp), rresS_blank _ (by omega)]
  have hK1 : K = 1 := by
    have : (s.drop (spI s + 1)).length ≠ 0 := by omega
    rw [List.length_drop] at this
    omega
  subst hK1
  have ht := spI_split k1
  rw [splB_some 0 _ k2]
  obtain ⟨a, ha⟩ : ∃ a, a = s.take (spI s) := ⟨_, rfl⟩
  obtain ⟨t, hT⟩ : ∃ t, t = s.drop (spI s + 1) := ⟨_, rfl⟩
  rw [← hT] at k1 k2 k3 k4 ht ⊢
  rw [← ha, ← hT] at hs
  obtain ⟨b, hb⟩ : ∃ b, b = t.take (spI t) := ⟨_, rfl⟩
  obtain ⟨c, hc⟩ : ∃ c, c = t.drop (spI t + 1) := ⟨_, rfl⟩
  rw [← hb, ← hc] at ht ⊢
  rw [← ha] at h4 ⊢
  rw [← hb] at k4
  have hal : a.length = spI s := by rw [ha, List.length_take]; omega
  have hbl : b.length = spI t := by rw [hb, List.length_take]; omega
  show resP n [a, b, c] = rresS n s
  by_cases hA : a.length = 8 ∧ b.length = 3
  · have e : s = a ++ 32 :: (b ++ 32 :: c) := by rw [hs, ht]
    have l8 : s[8]? = some 32 := by rw [e, List.getElem?_append_right (by omega), hA.1]; rfl
    have e2 : s = (a ++ 32 :: b) ++ 32 :: c := by rw [e]; simp
    have lab : (a ++ (32 : UInt8) :: b).length = 12 := by simp; omega
    have l12 : s[12]? = some 32 := by rw [e2, List.getElem?_append_right (by omega), lab]; rfl
    have hlen : ¬ s.length < 13 := by rw [e2, List.length_append, lab]; simp; omega
    have t8 : s.take 8 = a := by rw [e, ← hA.1]; exact List.take_left
    have t12 : s.take 12 = a ++ 32 :: b := by rw [e2, ← lab]; exact List.take_left
    have d9 : (s.take 12).drop 9 = b := by
      have : a ++ (32 : UInt8) :: b = (a ++ [32]) ++ b := by simp
      rw [t12, this]
      have l9 : (a ++ [(32 : UInt8)]).length = 9 := by simp; omega
      rw [← l9]; exact List.drop_left
    have d13 : s.drop 13 = c := by
      have : s = (a ++ 32 :: b ++ [32]) ++ c := by rw [e2]; simp
      rw [this]
      have l9 : (a ++ (32 : UInt8) :: b ++ [32]).length = 13 := by simp; omega
      rw [← l9]; exact List.drop_left
    unfold rresS resP
    rw [if_neg (by rw [l8, l12]; simp; omega)]
    simp only
    rw [d9, d13, t8, val_same]
    generalize numB 999 b = q
    obtain ⟨v, f⟩ := q
    simp only
    by_cases c1 : f = 0 ∧ 100 ≤ v
    · rw [if_neg (by omega)]
      cases minB a <;> simp [c1.1, c1.2, hA.2]
    · rw [if_pos (by omega)]
      cases minB a with
      | none => rfl
      | some k =>
        simp only
        rw [if_neg]
        rintro ⟨q1, _, q2, _⟩; exact c1 ⟨q1, q2⟩
  · have hL : resP n [a, b, c] = (st0, 0, 10) := by
      simp only [resP]
      cases hm : minB a with
      | none => rfl
      | some k =>
        simp only
        rw [if_neg]
        rintro ⟨_, q2, _⟩
        exact hA ⟨(minB_some hm).1, q2⟩
    rw [hL]
    unfold rresS
    by_cases c1 : s.length < 13 ∨ s[8]? ≠ some 32 ∨ s[12]? ≠ some 32
    · rw [if_pos c1]
    · rw [if_neg c1]
      simp only [not_or, Decidable.not_not] at c1
      simp only
      by_cases c2 : (numB 999 ((s.take 12).drop 9)).2 ≠ 0 ∨ (numB 999 ((s.take 12).drop 9)).1 < 100
      · rw [if_pos c2]
      · rw [if_neg c2]
        cases hm : minB (s.take 8) with
        | none => rfl
        | some k =>
          exfalso
          have e8 := spI_first c1.2.1 (minB_some hm).2.1
          have hlen3 : b.length ≠ 3 := fun h => hA ⟨by omega, h⟩
          have hT9 : t = s.drop 9 := by rw [hT, e8]
          have t3 : t[3]? = some 32 := by rw [hT9, List.getElem?_drop]; exact c1.2.2
          have hj : spI t ≤ 3 := by
            apply Classical.byContradiction
            intro hh
            have : b[3]? = some 32 := by rw [hb, List.getElem?_take, if_pos (by omega)]; exact t3
            exact count_at this k4
          have hcnt : ((s.take 12).drop 9).count 32 ≠ 0 := by
            have e9 : (s.take 12).drop 9 = t.take 3 := by rw [hT9, List.drop_take]
            rw [e9]
            refine count_at (k := spI t) ?_
            rw [List.getElem?_take, if_pos (by omega)]
            have e10 : (b ++ 32 :: c)[spI t]? = some 32 := by rw [List.getElem?_append_right (by omega), hbl, Nat.sub_self]; rfl
            rw [← ht] at e10; exact e10
          exact c2 (.inl (num_blank hcnt 999))
theorem rres_eq (b : List UInt8) : rresB b = resB b := by
  unfold rresB resB
  simp only
  split
  · rw [res_same]
  · rfl
theorem line_more {b : List UInt8} {m1 m2 : Nat} (h : (lineB b m1).2.2 = 0) (hm : m1 ≤ m2) : lineB b m2 = lineB b m1 := by
  have hi : 0 ≤ ixB (b.take (min b.length (m1 + 1))) 10 := by
    unfold lineB at h
    simp only at h
    apply Classical.byContradiction
    intro hh
    rw [if_pos (by omega)] at h
    split at h <;> simp at h
  have e : ixB (b.take (min b.length (m2 + 1))) 10 = ixB (b.take (min b.length (m1 + 1))) 10 := by
    have e1 : b.take (min b.length (m2 + 1)) = b.take (min b.length (m1 + 1)) ++ (b.take (min b.length (m2 + 1))).drop (min b.length (m1 + 1)) := by
      have := List.take_append_drop (min b.length (m1 + 1)) (b.take (min b.length (m2 + 1)))
      rw [List.take_take, Nat.min_eq_left (by omega)] at this
      exact this.symm
    rw [e1, ixB_append _ _ _ hi]
  unfold lineB
  simp only
  rw [e]
  have hn : ¬ ixB (b.take (min b.length (m1 + 1))) 10 < 0 := by omega
  rw [if_neg hn, if_neg hn]
theorem not_both (b : List UInt8) (h : (reqB b).2.2 = 0) : (resB b).2.2 ≠ 0 := by
  intro h2
  rw [← rreq_eq] at h
  rw [← rres_eq] at h2
  unfold rresB at h2
  simp only at h2
  by_cases c : (lineB b 300).2.2 = 0
  · rw [if_pos c] at h2
    unfold rreqB at h
    simp only at h
    rw [line_more c (by omega), if_pos c] at h
    generalize (lineB b 300).1 = s at *
    generalize (lineB b 300).2.1 = n at *
    unfold rresS at h2
    by_cases c1 : s.length < 13 ∨ s[8]? ≠ some 32 ∨ s[12]? ≠ some 32
    · rw [if_pos c1] at h2; simp at h2
    · rw [if_neg c1] at h2
      simp only [not_or, Decidable.not_not] at c1
      simp only at h2
      split at h2
      · simp at h2
      · cases hm : minB (s.take 8) with
        | none => rw [hm] at h2; simp at h2
        | some k =>
          have hs := minB_some hm
          have e8 := spI_first c1.2.1 hs.2.1
          unfold rreqS at h
          split at h
          · simp at h
          · simp only at h
            split at h
            · simp at h
            · rw [e8] at h
              split at h
              · simp at h
              · rw [if_neg (by rw [hs.2.2]; simp)] at h
                simp at h
  · rw [if_neg c] at h2
    exact c h2
end Go.Av
