/- What start.Request and its parts, and the document's tokens, compute, for every text. -/
import Derived.Test.YtpffiikopcpgfaaDoorDa
set_option linter.all false
/-! part Q06 -/
namespace Go.Av
open Go.Proofs

def visO (c : UInt8) : Bool := decide (33 ≤ c.toNat) && decide (c.toNat ≤ 126)
def visB (l : List UInt8) : Bool := decide (l ≠ []) && l.all visO
theorem visible53 (l : List UInt8) (hl : l.length ≤ 1000000000) : PureC Tryd.prog 53 [.str l] (.bool (visB l)) := by
  refine pure_of_aw (ys := [_]) [] [] [] mixed Tryd.func53 rfl (by kernel_rfl) (by kernel_rfl) (by simp [Tryd.ntmps53]) rfl ?_
  simp
  refine aw_loop0 (fun k : Nat => k ≤ l.length ∧ l.all visO = (l.drop k).all visO) (fun k => [(0, .p (.str l)), (5, .p (.int l.length)), (6, .p (.int k))]) (fun k => l.length - k) 0 (by simp) (leN_id (by simp)) ?_
  rintro k ⟨h1, h2⟩
  by_cases c : k < l.length
  · rw [List.drop_eq_getElem_cons c, List.all_cons] at h2
    have hne : l ≠ [] := by intro h; subst h; simp at c
    by_cases a1 : l[k].toNat ≤ 32
    · have b1 : (l[k].toNat : Int) ≤ 32 := by omega
      have hv : visO l[k] = false := by unfold visO; simp; omega
      rw [hv, Bool.false_and] at h2
      simp [c, a1, b1, Tryd.results53, visB, h2]
    · have b1 : ¬ (l[k].toNat : Int) ≤ 32 := by omega
      by_cases a2 : 127 ≤ l[k].toNat
      · have b2 : (127 : Int) ≤ (l[k].toNat : Int) := by omega
        have hv : visO l[k] = false := by unfold visO; simp; omega
        rw [hv, Bool.false_and] at h2
        simp [c, a1, b1, a2, b2, Tryd.results53, visB, h2]
      · have b2 : ¬ (127 : Int) ≤ (l[k].toNat : Int) := by omega
        have hv : visO l[k] = true := by unfold visO; simp; omega
        rw [hv, Bool.true_and] at h2
        simp [c, a1, b1, a2, b2]
        refine ⟨k + 1, ⟨by omega, h2⟩, by omega, leN_id ?_⟩
        simp [wrap64_id (n := (k : Int) + 1) (by omega) (by omega)]
  · obtain rfl : k = l.length := by omega
    rw [List.drop_length, List.all_nil] at h2
    by_cases hne : l = []
    · subst hne; simp [Tryd.results53, visB]
    · have hd : (l != []) = true := by simpa using hne
      simp [Tryd.results53, visB, h2, hne, hd]
def minB (l : List UInt8) : Option Nat := if l = [72, 84, 84, 80, 47, 49, 46, 48] then some 0 else if l = [72, 84, 84, 80, 47, 49, 46, 49] then some 1 else none
theorem minor54 (l : List UInt8) : PureC Tryd.prog 54 [.str l] (.tp [.int (((minB l).getD 0 : Nat) : Int), .bool (minB l).isSome]) := by
  refine pure_of_aw (ys := [_, _]) [] [] [] mixed Tryd.func54 rfl (by kernel_rfl) (by kernel_rfl) (by simp [Tryd.ntmps54]) rfl ?_
  unfold minB
  by_cases h1 : l = [72, 84, 84, 80, 47, 49, 46, 48]
  · subst h1; simp [Tryd.results54]
  · have d1 : (l == [72, 84, 84, 80, 47, 49, 46, 48]) = false := by simpa using h1
    by_cases h2 : l = [72, 84, 84, 80, 47, 49, 46, 49]
    · subst h2; simp [Tryd.results54]
    · have d2 : (l == [72, 84, 84, 80, 47, 49, 46, 49]) = false := by simpa using h2
      simp [h1, h2, d1, d2, Tryd.results54]
end Go.Av

/-! part Q07 -/
namespace Go.Av
open Go.Proofs

def lineB (b : List UInt8) (most : Nat) : List UInt8 × Int × Int :=
  let n := ixB (b.take (min b.length (most + 1))) 10
  if n < 0 then (if b.length ≤ most then ([], 0, 11) else ([], 0, 12)) else
  if n = 0 ∨ b[n.toNat - 1]? ≠ some 13 then ([], 0, 10) else (b.take (n.toNat - 1), n + 1, 0)
theorem bytes_take (l : List UInt8) (k : Nat) : (bytesPC l).take k = bytesPC (l.take k) := by simp [bytesPC]
theorem bytes_at {l : List UInt8} {k : Nat} (h : k < l.length) : (bytesPC l)[k]? = some (u8P l[k]) := by simp [bytesPC, h]
@[simp] theorem bytesPC_len (l : List UInt8) : (bytesPC l).length = l.length := by simp [bytesPC]
@[simp] theorem bytesPC_get (l : List UInt8) (k : Nat) (h : k < (bytesPC l).length) : (bytesPC l)[k] = .sc (.int .u8 (l[k]'(by simpa using h)).toNat) := by simp [bytesPC]
set_option maxHeartbeats 1000000 in
theorem line50 (b : List UInt8) (most : Nat) (hm : most ≤ 100000) (hb : b.length ≤ 1000000000) : PureC Tryd.prog 50 [.sl (bytesPC b), .int most] (.tp [.str (lineB b most).1, .int (lineB b most).2.1, .int (lineB b most).2.2]) := by
  refine pure_of_aw (ys := [_, _, _]) [] [] [] mixed Tryd.func50 rfl (by kernel_rfl) (by kernel_rfl) (by simp [Tryd.ntmps50]) rfl ?_
  have w1 : IntKind.i64.wrap ((most : Int) + 1) = ((most + 1 : Nat) : Int) := by rw [wrap64_id (by omega) (by omega)]; simp
  have hl : (bytesPC b).length = b.length := by simp [bytesPC]
  have hmin : (if (most : Int) + 1 < (b.length : Int) then (most : Int) + 1 else (b.length : Int)) = ((min b.length (most + 1) : Nat) : Int) := by split <;> omega
  have hw : ∀ y ∈ bytesPC b, 1 = y.width := by intro y hy; exact (bytes_width y hy).symm
  have hle : min b.length (most + 1) ≤ b.length := Nat.min_le_left _ _
  obtain ⟨q, hq⟩ : ∃ q, q = min b.length (most + 1) := ⟨_, rfl⟩
  unfold lineB
  rw [← hq] at hmin hle ⊢
  simp [hl, w1, hmin, bytes_take, hle]
  refine ⟨hw, ?_⟩
  refine pcall_of (bindex88 (b.take q) 10) (by simp) ?_
  have hlt := ixB_lt (b.take q) 10
  generalize ixB (b.take q) 10 = n at *
  by_cases c1 : n < 0
  · by_cases c2 : b.length ≤ most
    · have c2' : (b.length : Int) ≤ (most : Int) := by omega
      simp [c1, c2, c2', hl, Tryd.results50]
    · have c2' : ¬ (b.length : Int) ≤ (most : Int) := by omega
      simp [c1, c2, c2', hl, Tryd.results50]
  · obtain ⟨m, rfl⟩ : ∃ m : Nat, n = m := ⟨n.toNat, by omega⟩
    simp at hlt
    by_cases c3 : m = 0
    · subst c3
      simp [c1, Tryd.results50]
    · have c3' : ((m : Int) == 0) = false := by simp; omega
      have w2 : IntKind.i64.wrap ((m : Int) - 1) = ((m - 1 : Nat) : Int) := by rw [wrap64_id (by omega) (by omega)]; omega
      have w3 : IntKind.i64.wrap ((m : Int) + 1) = (m : Int) + 1 := wrap64_id (by omega) (by omega)
      have hi : m - 1 < b.length := by omega
      have hat := bytes_at hi
      by_cases c4 : b[m - 1] = 13
      · have e4 : (bytesPC b)[m - 1]? = some (u8P 13) := by rw [hat, c4]
        simp [c1, c3, c3', w2, w3, hi, c4, hl, bytes_take, Tryd.results50]
        exact ⟨hw, by omega⟩
      · have d4 : ((b[m - 1].toNat : Int) != 13) = true := by
          simp; intro h; apply c4; apply UInt8.toNat_inj.1; exact Int.ofNat_inj.1 h
        simp [c1, c3, c3', w2, w3, hi, c4, d4, hl, bytes_take, Tryd.results50]
end Go.Av

/-! part Q08 -/
namespace Go.Av
open Go.Proofs

structure StV where
  m : List UInt8
  t : List UInt8
  st : Int
  r : List UInt8
  mi : Int
def st0 : StV := ⟨[], [], 0, [], 0⟩
abbrev stP (s : StV) : PC := .agg false [.str s.m, .str s.t, .int s.st, .str s.r, .int s.mi]
def tkB (l : List UInt8) : Bool := decide (l ≠ []) && l.all tokB
def reqP (n : Int) : List (List UInt8) → StV × Int × Int
  | [a, b, c] => if tkB a = true ∧ visB b = true then (match minB c with
    | none => (st0, 0, 10)
    | some k => if a.length ≤ 32 ∧ b.length ≤ 8000 then (⟨a, b, 0, [], k⟩, n, 0) else (st0, 0, 12)) else (st0, 0, 10)
  | _ => (st0, 0, 10)
def reqB (b : List UInt8) : StV × Int × Int :=
  let x := lineB b 8200
  if x.2.2 = 0 then reqP x.2.1 (splB 32 (x.1.count 32) x.1) else (st0, 0, x.2.2)
theorem splB_len (c : UInt8) (l : List UInt8) : ∀ k, ∀ x ∈ splB c k l, x.length ≤ l.length := by
  intro k
  induction k generalizing l with
  | zero => intro x hx; simp [splB] at hx; subst hx; exact Nat.le_refl _
  | succ k ih =>
    intro x hx
    unfold splB at hx
    split at hx
    · simp at hx; subst hx; exact Nat.le_refl _
    · rcases List.mem_cons.1 hx with rfl | hx
      · simp; omega
      · have := ih _ x hx
        simp at this; omega
set_option maxHeartbeats 2000000 in
set_option maxRecDepth 100000 in
theorem request19 (b : List UInt8) (hb : b.length ≤ 1000000) : PureC Tryd.prog 19 [.sl (bytesPC b)] (.tp [stP (reqB b).1, .int (reqB b).2.1, .int (reqB b).2.2]) := by
  have hL := line50 b 8200 (by omega) (by omega)
  have hlen : (lineB b 8200).1.length ≤ 1000000 := by
    unfold lineB; simp only
    split
    · split <;> simp
    · split
      · simp
      · simp; omega
  unfold reqB
  simp only
  generalize lineB b 8200 = x at *
  obtain ⟨s, n, e⟩ := x
  simp only at hL hlen ⊢
  refine pure_of_aw (ys := [_, _, _]) [] [(12, [(9, .s 1 [])])] [(1, 0)] mixed Tryd.func19 rfl (by kernel_rfl) (by kernel_rfl) (by simp [Tryd.ntmps19]) rfl ?_
  simp
  refine pcall_of hL (by simp) ?_
  by_cases he : e = 0
  case neg =>
    have hd : (e != 0) = true := by simpa using he
    simp [he, hd, Tryd.results19, st0]
  subst he
  simp
  refine pcall_of (split51 s 32 hlen) (by simp) ?_
  have hpl := splB_len 32 s (s.count 32)
  generalize splB 32 (s.count 32) s = p at *
  by_cases h3 : p.length = 3
  case neg =>
    have hd : ((p.length : Int) != 3) = true := by simp; omega
    have hr : reqP n p = (st0, 0, 10) := by
      unfold reqP
      split
      · simp at h3
      · rfl
    simp [hd, hr, st0, Tryd.results19]
  match p, h3, hpl with
  | [x, y, z], _, hpl =>
  have hx := hpl x (by simp)
  have hy := hpl y (by simp)
  have tk := token52 x (by omega)
  rw [show (decide (x ≠ []) && x.all tokB) = tkB x from rfl] at tk
  have vs := visible53 y (by omega)
  simp only [reqP]
  simp
  refine pcall_of tk (by simp) ?_
  cases htk : tkB x with
  | false => simp [st0, Tryd.results19]
  | true =>
  simp
  refine pcall_of vs (by simp) ?_
  cases hvs : visB y with
  | false => simp [st0, Tryd.results19]
  | true =>
  simp
  refine pcall_of (minor54 z) (by simp) ?_
  cases hm : minB z with
  | none => simp [st0, Tryd.results19]
  | some k =>
  by_cases l1 : x.length ≤ 32
  case neg =>
    have d1 : ¬ (x.length : Int) ≤ 32 := by omega
    have d2 : (32 : Int) < (x.length : Int) := by omega
    simp [l1, d2, show 32 < x.length by omega, st0, Tryd.results19]
  by_cases l2 : y.length ≤ 8000
  case neg =>
    have d1 : ¬ (32 : Int) < (x.length : Int) := by omega
    have d2 : (8000 : Int) < (y.length : Int) := by omega
    simp [l1, l2, d1, d2, show ¬ 32 < x.length by omega, show 8000 < y.length by omega, st0, Tryd.results19]
  have d1 : ¬ (32 : Int) < (x.length : Int) := by omega
  have d2 : ¬ (8000 : Int) < (y.length : Int) := by omega
  simp [l1, l2, d1, d2, show ¬ 32 < x.length by omega, show ¬ 8000 < y.length by omega, Tryd.results19]
end Go.Av

/-! part Q10 -/
namespace Go.Av
open Go.Proofs

theorem rminor57 (l : List UInt8) : PureC Tryd.prog 57 [.str l] (.int (match minB l with | some k => (k : Int) | none => -1)) := by
  refine pure_of_aw (ys := [_]) [] [] [] mixed Tryd.func57 rfl (by kernel_rfl) (by kernel_rfl) (by simp [Tryd.ntmps57]) rfl ?_
  unfold minB
  by_cases h1 : l = [72, 84, 84, 80, 47, 49, 46, 48]
  · subst h1; simp [Tryd.results57]
  · have d1 : (l == [72, 84, 84, 80, 47, 49, 46, 48]) = false := by simpa using h1
    by_cases h2 : l = [72, 84, 84, 80, 47, 49, 46, 49]
    · subst h2; simp [Tryd.results57]
    · have d2 : (l == [72, 84, 84, 80, 47, 49, 46, 49]) = false := by simpa using h2
      simp [h1, h2, d1, d2, Tryd.results57]
theorem rvisible58 (l : List UInt8) (hl : l.length ≤ 1000000000) : PureC Tryd.prog 58 [.str l] (.bool (visB l)) := by
  refine pure_of_aw (ys := [_]) [] [] [] mixed Tryd.func58 rfl (by kernel_rfl) (by kernel_rfl) (by simp [Tryd.ntmps58]) rfl ?_
  simp
  refine aw_loop0 (fun k : Nat => k ≤ l.length ∧ l.all visO = (l.drop k).all visO) (fun k => [(0, .p (.str l)), (3, .p (.int k))]) (fun k => l.length - k) 0 (by simp) (leN_id (by simp)) ?_
  rintro k ⟨h1, h2⟩
  by_cases c : k < l.length
  · rw [List.drop_eq_getElem_cons c, List.all_cons] at h2
    by_cases a1 : l[k].toNat < 33
    · have b1 : (l[k].toNat : Int) < 33 := by omega
      have hv : visO l[k] = false := by unfold visO; simp; omega
      rw [hv, Bool.false_and] at h2
      simp [c, a1, b1, Tryd.results58, visB, h2]
    · have b1 : ¬ (l[k].toNat : Int) < 33 := by omega
      by_cases a2 : 126 < l[k].toNat
      · have b2 : (126 : Int) < (l[k].toNat : Int) := by omega
        have hv : visO l[k] = false := by unfold visO; simp; omega
        rw [hv, Bool.false_and] at h2
        simp [c, a1, b1, a2, b2, Tryd.results58, visB, h2]
      · have b2 : ¬ (126 : Int) < (l[k].toNat : Int) := by omega
        have hv : visO l[k] = true := by unfold visO; simp; omega
        rw [hv, Bool.true_and] at h2
        simp [c, a1, b1, a2, b2]
        refine ⟨k + 1, ⟨by omega, h2⟩, by omega, leN_id ?_⟩
        simp [wrap64_id (n := (k : Int) + 1) (by omega) (by omega)]
  · obtain rfl : k = l.length := by omega
    rw [List.drop_length, List.all_nil] at h2
    by_cases hne : l = []
    · subst hne; simp [Tryd.results58, visB]
    · have hd : 0 < l.length := by cases l; exact absurd rfl hne; simp
      have hd2 : (0 : Int) < (l.length : Int) := by omega
      simp [Tryd.results58, visB, h2, hne, hd, hd2]
end Go.Av

/-! part Q11 -/
namespace Go.Av
open Go.Proofs

/-- where the first blank stands; the length: nowhere -/
def spI (l : List UInt8) : Nat := (l.takeWhile fun c => c != 32).length
theorem spI_eq {l : List UInt8} {k : Nat} (hk : k ≤ l.length) (h1 : ∀ c ∈ l.take k, (c != 32) = true) (h2 : ∀ h : k < l.length, (l[k] != 32) = false) : spI l = k := by
  unfold spI
  induction l generalizing k with
  | nil => simp at hk; subst hk; rfl
  | cons a l ih =>
    cases k with
    | zero =>
      have := h2 (by simp)
      simp only [List.getElem_cons_zero] at this
      rw [List.takeWhile_cons, this]; rfl
    | succ k =>
      rw [List.takeWhile_cons, h1 a (by simp)]
      simp only [if_true, List.length_cons]
      rw [ih (by simpa using hk) (fun c hc => h1 c (by simp [hc])) (fun h => h2 (by simp; exact h))]
theorem space56 (l : List UInt8) (hl : l.length ≤ 1000000000) : PureC Tryd.prog 56 [.str l] (.int (spI l)) := by
  refine pure_of_aw (ys := [_]) [] [] [] mixed Tryd.func56 rfl (by kernel_rfl) (by kernel_rfl) (by simp [Tryd.ntmps56]) rfl ?_
  simp
  refine aw_loop0 (fun k : Nat => k ≤ l.length ∧ ∀ c ∈ l.take k, (c != 32) = true) (fun k => [(0, .p (.str l)), (3, .p (.int k))]) (fun k => l.length - k) 0 (by simp) (leN_id (by simp)) ?_
  rintro k ⟨h1, h2⟩
  by_cases c : k < l.length
  · by_cases a : l[k] = 32
    · have e := spI_eq h1 h2 (fun _ => by rw [a]; rfl)
      simp [c, a, e, Tryd.results56]
    · have b : ((l[k].toNat : Int) != 32) = true := by
        simp; intro h; apply a; apply UInt8.toNat_inj.1; exact Int.ofNat_inj.1 h
      simp [c, a, b]
      refine ⟨k + 1, ⟨by omega, ?_⟩, by omega, leN_id ?_⟩
      · intro x hx
        rw [List.take_succ_eq_append_getElem c] at hx
        rcases List.mem_append.1 hx with hx | hx
        · simpa using h2 x hx
        · simp at hx; subst hx; simpa using a
      · simp [wrap64_id (n := (k : Int) + 1) (by omega) (by omega)]
  · obtain rfl : k = l.length := by omega
    have e := spI_eq h1 h2 (fun h => absurd h (by omega))
    simp [e, Tryd.results56]
end Go.Av

/-! part Q12 -/
namespace Go.Av
open Go.Proofs

theorem ixB_eq {l : List UInt8} {c : UInt8} {k : Nat} (hk : k < l.length) (h1 : ∀ x ∈ l.take k, x ≠ c) (h2 : l[k] = c) : ixB l c = k := by
  unfold ixB
  induction l generalizing k with
  | nil => simp at hk
  | cons a l ih =>
    cases k with
    | zero => simp at h2; simp [Go.Lib.indexByte, h2]
    | succ k =>
      have ha : a ≠ c := h1 a (by simp)
      have := ih (k := k) (by simpa using hk) (fun x hx => h1 x (by simp [hx])) (by simpa using h2)
      simp [Go.Lib.indexByte, ha, this]
      try omega
theorem ixB_none {l : List UInt8} {c : UInt8} (h : ∀ x ∈ l, x ≠ c) : ixB l c = -1 := by
  unfold ixB
  induction l with
  | nil => rfl
  | cons a l ih =>
    have ha : a ≠ c := h a (by simp)
    have := ih fun x hx => h x (by simp [hx])
    simp [Go.Lib.indexByte, ha, this]
set_option maxHeartbeats 1000000 in
theorem rline55 (b : List UInt8) (most : Nat) (hm : most ≤ 100000) (hb : b.length ≤ 1000000000) : PureC Tryd.prog 55 [.sl (bytesPC b), .int most] (.tp [.str (lineB b most).1, .int (lineB b most).2.1, .int (lineB b most).2.2]) := by
  refine pure_of_aw (ys := [_, _, _]) [] [] [] mixed Tryd.func55 rfl (by kernel_rfl) (by kernel_rfl) (by simp [Tryd.ntmps55]) rfl ?_
  simp
  obtain ⟨q, hq⟩ : ∃ q, q = min b.length (most + 1) := ⟨_, rfl⟩
  refine aw_loop0 (fun k : Nat => k ≤ q ∧ ∀ x ∈ b.take k, x ≠ 10) (fun k => [(0, .p (.sl (bytesPC b))), (1, .p (.int most)), (7, .p (.int k))]) (fun k => q - k) 0 (by simp) (leN_id (by simp)) ?_
  rintro k ⟨h1, h2⟩
  unfold lineB
  rw [← hq]
  by_cases c : k < q
  · have c1 : k < b.length := by omega
    have c2 : (k : Int) ≤ (most : Int) := by omega
    have c3 : k ≤ most := by omega
    by_cases a : b[k] = 10
    · have e : ixB (b.take q) 10 = k := ixB_eq (by simp; omega) (fun x hx => h2 x (by rw [List.take_take, Nat.min_eq_left (by omega)] at hx; exact hx)) (by simpa using a)
      by_cases k0 : k = 0
      · subst k0
        simp [c1, c2, c3, a, e, Tryd.results55]
      · have k0' : ((k : Int) == 0) = false := by simp; omega
        have w2 : IntKind.i64.wrap ((k : Int) - 1) = ((k - 1 : Nat) : Int) := by rw [wrap64_id (by omega) (by omega)]; omega
        have w3 : IntKind.i64.wrap ((k : Int) + 1) = (k : Int) + 1 := wrap64_id (by omega) (by omega)
        have hi : k - 1 < b.length := by omega
        by_cases c4 : b[k - 1] = 13
        · simp [c1, c2, c3, a, e, k0, k0', w2, w3, hi, c4, bytes_take, Tryd.results55]
          try exact ⟨by intro y hy; exact (bytes_width y hy).symm, by omega⟩
        · have d4 : ((b[k - 1].toNat : Int) != 13) = true := by
            simp; intro h; apply c4; apply UInt8.toNat_inj.1; exact Int.ofNat_inj.1 h
          simp [c1, c2, c3, a, e, k0, k0', w2, w3, hi, c4, d4, bytes_take, Tryd.results55]
    · have d : ((b[k].toNat : Int) != 10) = true := by
        simp; intro h; apply a; apply UInt8.toNat_inj.1; exact Int.ofNat_inj.1 h
      simp [c1, c2, c3, a, d]
      refine ⟨k + 1, ⟨by omega, ?_⟩, by omega, leN_id ?_⟩
      · intro x hx
        rw [List.take_succ_eq_append_getElem c1] at hx
        rcases List.mem_append.1 hx with hx | hx
        · exact h2 x hx
        · simp at hx; subst hx; exact a
      · simp [wrap64_id (n := (k : Int) + 1) (by omega) (by omega)]
  · obtain rfl : k = q := by omega
    have e : ixB (b.take k) 10 = -1 := ixB_none h2
    by_cases c1 : b.length ≤ most
    · have c1' : (b.length : Int) ≤ (most : Int) := by omega
      have hk : k = b.length := by rw [hq]; exact Nat.min_eq_left (by omega)
      have c2 : ¬ k < b.length := by omega
      simp [c1, c1', c2, e, Tryd.results55]
    · have c1' : ¬ (b.length : Int) ≤ (most : Int) := by omega
      have hk : k = most + 1 := by rw [hq]; exact Nat.min_eq_right (by omega)
      have c3 : ¬ (k : Int) ≤ (most : Int) := by omega
      have c4 : ¬ k ≤ most := by omega
      by_cases c2 : k < b.length
      · simp [c1, c1', c2, c3, c4, e, Tryd.results55]
      · simp [c1, c1', c2, e, Tryd.results55]
end Go.Av

/-! part Q13 -/
namespace Go.Av
open Go.Proofs

theorem rtoken31 (h70 : ∀ c, PureC Tryd.prog 70 [u8P c] (.bool (tokB c))) (l : List UInt8) (hl : l.length ≤ 1000000000) : PureC Tryd.prog 31 [.str l] (.bool (tkB l)) := by
  refine pure_of_aw (ys := [_]) [] [] [] mixed Tryd.func31 rfl (by kernel_rfl) (by kernel_rfl) (by simp [Tryd.ntmps31]) rfl ?_
  simp
  refine aw_loop0 (fun k : Nat => k ≤ l.length ∧ l.all tokB = (l.drop k).all tokB) (fun k => [(0, .p (.str l)), (3, .p (.int k))]) (fun k => l.length - k) 0 (by simp) (leN_id (by simp)) ?_
  rintro k ⟨h1, h2⟩
  by_cases c : k < l.length
  · rw [List.drop_eq_getElem_cons c, List.all_cons] at h2
    simp [c]
    refine pcall_of (h70 l[k]) (by simp) ?_
    cases hz : tokB l[k] with
    | true =>
      rw [hz] at h2
      simp
      refine ⟨k + 1, ⟨by omega, by simpa using h2⟩, by omega, leN_id ?_⟩
      simp [wrap64_id (n := (k : Int) + 1) (by omega) (by omega)]
    | false =>
      rw [hz, Bool.false_and] at h2
      simp [tkB, h2, Tryd.results31]
  · obtain rfl : k = l.length := by omega
    rw [List.drop_length, List.all_nil] at h2
    by_cases hne : l = []
    · subst hne; simp [Tryd.results31, tkB]
    · have hd : 0 < l.length := by cases l; exact absurd rfl hne; simp
      have hd2 : (0 : Int) < (l.length : Int) := by omega
      simp [Tryd.results31, tkB, h2, hne, hd, hd2]
end Go.Av

/-! part Q14 -/
namespace Go.Av
open Go.Proofs
set_option maxHeartbeats 2000000 in
theorem tchar70 (c : UInt8) : PureC Tryd.prog 70 [u8P c] (.bool (tokB c)) := by
  refine pure_of_aw (ys := [_]) [] [] [] mixed Tryd.func70 rfl (by kernel_rfl) (by kernel_rfl) (by simp [Tryd.ntmps70]) rfl ?_
  by_cases hl : letB c = true
  · have ht : tokB c = true := by unfold tokB; rw [hl]; rfl
    rw [ht]
    unfold letB at hl
    unfold u8P
    generalize c.toNat = k at *
    by_cases a5 : 48 ≤ k
    · have b5 : (48 : Int) ≤ (k : Int) := by omega
      by_cases a6 : k ≤ 57
      · have b6 : (k : Int) ≤ 57 := by omega
        simp [a5, a6, b5, b6, Tryd.results70]
      · have b6 : ¬ (k : Int) ≤ 57 := by omega
        simp at hl
        have a3 : 65 ≤ k := by omega
        have b3 : (65 : Int) ≤ (k : Int) := by omega
        by_cases a4 : k ≤ 90
        · have b4 : (k : Int) ≤ 90 := by omega
          simp [a5, a6, b5, b6, a3, b3, a4, b4, Tryd.results70]
        · have b4 : ¬ (k : Int) ≤ 90 := by omega
          have a1 : 97 ≤ k := by omega
          have a2 : k ≤ 122 := by omega
          have b1 : (97 : Int) ≤ (k : Int) := by omega
          have b2 : (k : Int) ≤ 122 := by omega
          simp [a5, a6, b5, b6, a3, b3, a4, b4, a1, b1, a2, b2, Tryd.results70]
    · simp at hl
      omega
  · have ht : tokB c = decide (0 ≤ ixB marks c) := by unfold tokB; rw [Bool.eq_false_iff.2 hl]; rfl
    have hn : (c.toNat < 48 ∨ (57 < c.toNat ∧ c.toNat < 65)) ∨ (90 < c.toNat ∧ c.toNat < 97) ∨ 122 < c.toNat := by
      unfold letB at hl; simp at hl; omega
    rw [ht]
    have n1 : (if (48 : Int) ≤ (c.toNat : Int) then decide ((c.toNat : Int) ≤ 57) else false) = false := by split <;> simp <;> omega
    rcases hn with (h | h) | h | h
    · have b48 : ¬ (48 : Int) ≤ (c.toNat : Int) := by omega
      have a48 : ¬ 48 ≤ c.toNat := by omega
      have b65 : ¬ (65 : Int) ≤ (c.toNat : Int) := by omega
      have a65 : ¬ 65 ≤ c.toNat := by omega
      have b97 : ¬ (97 : Int) ≤ (c.toNat : Int) := by omega
      have a97 : ¬ 97 ≤ c.toNat := by omega
      simp [u8P, b48, a48, b65, a65, b97, a97]
      refine aw_loop0 (fun j : Nat => j ≤ 15 ∧ ∀ x ∈ marks.take j, x ≠ c) (fun j => [(0, .p (u8P c)), (3, .p (.sl (bytesPC marks))), (4, .p (.int j))]) (fun j => 15 - j) 0 (by simp) (leN_id (by simp [marks, bytesPC])) ?_
      rintro j ⟨j1, j2⟩
      have hml : marks.length = 15 := rfl
      by_cases d : j < 15
      · have d1 : j < marks.length := by omega
        have d2 : (j : Int) < 15 := by omega
        by_cases e : marks[j] = c
        · have e2 : ixB marks c = j := ixB_eq d1 j2 e
          simp [hml, d, d1, d2, e, e2, Tryd.results70]
        · have e3 : ((marks[j].toNat : Int) == (c.toNat : Int)) = false := by
            simp; intro h; apply e; apply UInt8.toNat_inj.1; exact Int.ofNat_inj.1 h
          simp [hml, d, d1, d2, e3]
          refine ⟨j + 1, ⟨by omega, ?_⟩, by omega, leN_id ?_⟩
          · intro x hx
            rw [List.take_succ_eq_append_getElem d1] at hx
            rcases List.mem_append.1 hx with hx | hx
            · exact j2 x hx
            · simp at hx; subst hx; exact e
          · simp [wrap64_id (n := (j : Int) + 1) (by omega) (by omega)]
      · obtain rfl : j = 15 := by omega
        have e2 : ixB marks c = -1 := ixB_none (by simpa [marks] using j2)
        simp [hml, e2, Tryd.results70]
    · have b48 : (48 : Int) ≤ (c.toNat : Int) := by omega
      have a48 : 48 ≤ c.toNat := by omega
      have b57 : ¬ (c.toNat : Int) ≤ 57 := by omega
      have a57 : ¬ c.toNat ≤ 57 := by omega
      have b65 : ¬ (65 : Int) ≤ (c.toNat : Int) := by omega
      have a65 : ¬ 65 ≤ c.toNat := by omega
      have b97 : ¬ (97 : Int) ≤ (c.toNat : Int) := by omega
      have a97 : ¬ 97 ≤ c.toNat := by omega
      simp [u8P, b48, a48, b57, a57, b65, a65, b97, a97]
      refine aw_loop0 (fun j : Nat => j ≤ 15 ∧ ∀ x ∈ marks.take j, x ≠ c) (fun j => [(0, .p (u8P c)), (3, .p (.sl (bytesPC marks))), (4, .p (.int j))]) (fun j => 15 - j) 0 (by simp) (leN_id (by simp [marks, bytesPC])) ?_
      rintro j ⟨j1, j2⟩
      have hml : marks.length = 15 := rfl
      by_cases d : j < 15
      · have d1 : j < marks.length := by omega
        have d2 : (j : Int) < 15 := by omega
        by_cases e : marks[j] = c
        · have e2 : ixB marks c = j := ixB_eq d1 j2 e
          simp [hml, d, d1, d2, e, e2, Tryd.results70]
        · have e3 : ((marks[j].toNat : Int) == (c.toNat : Int)) = false := by
            simp; intro h; apply e; apply UInt8.toNat_inj.1; exact Int.ofNat_inj.1 h
          simp [hml, d, d1, d2, e3]
          refine ⟨j + 1, ⟨by omega, ?_⟩, by omega, leN_id ?_⟩
          · intro x hx
            rw [List.take_succ_eq_append_getElem d1] at hx
            rcases List.mem_append.1 hx with hx | hx
            · exact j2 x hx
            · simp at hx; subst hx; exact e
          · simp [wrap64_id (n := (j : Int) + 1) (by omega) (by omega)]
      · obtain rfl : j = 15 := by omega
        have e2 : ixB marks c = -1 := ixB_none (by simpa [marks] using j2)
        simp [hml, e2, Tryd.results70]
    · have b48 : (48 : Int) ≤ (c.toNat : Int) := by omega
      have a48 : 48 ≤ c.toNat := by omega
      have b57 : ¬ (c.toNat : Int) ≤ 57 := by omega
      have a57 : ¬ c.toNat ≤ 57 := by omega
      have b65 : (65 : Int) ≤ (c.toNat : Int) := by omega
      have a65 : 65 ≤ c.toNat := by omega
      have b90 : ¬ (c.toNat : Int) ≤ 90 := by omega
      have a90 : ¬ c.toNat ≤ 90 := by omega
      have b97 : ¬ (97 : Int) ≤ (c.toNat : Int) := by omega
      have a97 : ¬ 97 ≤ c.toNat := by omega
      simp [u8P, b48, a48, b57, a57, b65, a65, b90, a90, b97, a97]
      refine aw_loop0 (fun j : Nat => j ≤ 15 ∧ ∀ x ∈ marks.take j, x ≠ c) (fun j => [(0, .p (u8P c)), (3, .p (.sl (bytesPC marks))), (4, .p (.int j))]) (fun j => 15 - j) 0 (by simp) (leN_id (by simp [marks, bytesPC])) ?_
      rintro j ⟨j1, j2⟩
      have hml : marks.length = 15 := rfl
      by_cases d : j < 15
      · have d1 : j < marks.length := by omega
        have d2 : (j : Int) < 15 := by omega
        by_cases e : marks[j] = c
        · have e2 : ixB marks c = j := ixB_eq d1 j2 e
          simp [hml, d, d1, d2, e, e2, Tryd.results70]
        · have e3 : ((marks[j].toNat : Int) == (c.toNat : Int)) = false := by
            simp; intro h; apply e; apply UInt8.toNat_inj.1; exact Int.ofNat_inj.1 h
          simp [hml, d, d1, d2, e3]
          refine ⟨j + 1, ⟨by omega, ?_⟩, by omega, leN_id ?_⟩
          · intro x hx
            rw [List.take_succ_eq_append_getElem d1] at hx
            rcases List.mem_append.1 hx with hx | hx
            · exact j2 x hx
            · simp at hx; subst hx; exact e
          · simp [wrap64_id (n := (j : Int) + 1) (by omega) (by omega)]
      · obtain rfl : j = 15 := by omega
        have e2 : ixB marks c = -1 := ixB_none (by simpa [marks] using j2)
        simp [hml, e2, Tryd.results70]
    · have b48 : (48 : Int) ≤ (c.toNat : Int) := by omega
      have a48 : 48 ≤ c.toNat := by omega
      have b57 : ¬ (c.toNat : Int) ≤ 57 := by omega
      have a57 : ¬ c.toNat ≤ 57 := by omega
      have b65 : (65 : Int) ≤ (c.toNat : Int) := by omega
      have a65 : 65 ≤ c.toNat := by omega
      have b90 : ¬ (c.toNat : Int) ≤ 90 := by omega
      have a90 : ¬ c.toNat ≤ 90 := by omega
      have b97 : (97 : Int) ≤ (c.toNat : Int) := by omega
      have a97 : 97 ≤ c.toNat := by omega
      have b122 : ¬ (c.toNat : Int) ≤ 122 := by omega
      have a122 : ¬ c.toNat ≤ 122 := by omega
      simp [u8P, b48, a48, b57, a57, b65, a65, b90, a90, b97, a97, b122, a122]
      refine aw_loop0 (fun j : Nat => j ≤ 15 ∧ ∀ x ∈ marks.take j, x ≠ c) (fun j => [(0, .p (u8P c)), (3, .p (.sl (bytesPC marks))), (4, .p (.int j))]) (fun j => 15 - j) 0 (by simp) (leN_id (by simp [marks, bytesPC])) ?_
      rintro j ⟨j1, j2⟩
      have hml : marks.length = 15 := rfl
      by_cases d : j < 15
      · have d1 : j < marks.length := by omega
        have d2 : (j : Int) < 15 := by omega
        by_cases e : marks[j] = c
        · have e2 : ixB marks c = j := ixB_eq d1 j2 e
          simp [hml, d, d1, d2, e, e2, Tryd.results70]
        · have e3 : ((marks[j].toNat : Int) == (c.toNat : Int)) = false := by
            simp; intro h; apply e; apply UInt8.toNat_inj.1; exact Int.ofNat_inj.1 h
          simp [hml, d, d1, d2, e3]
          refine ⟨j + 1, ⟨by omega, ?_⟩, by omega, leN_id ?_⟩
          · intro x hx
            rw [List.take_succ_eq_append_getElem d1] at hx
            rcases List.mem_append.1 hx with hx | hx
            · exact j2 x hx
            · simp at hx; subst hx; exact e
          · simp [wrap64_id (n := (j : Int) + 1) (by omega) (by omega)]
      · obtain rfl : j = 15 := by omega
        have e2 : ixB marks c = -1 := ixB_none (by simpa [marks] using j2)
        simp [hml, e2, Tryd.results70]
end Go.Av
