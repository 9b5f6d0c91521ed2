/- Names in any order and in great letters are the same; VaryOrder computes true. -/
import Derived.Test.YtpffiikopcpgfaaDoorDs
set_option linter.all false
/-! part Q98 -/
namespace Go.Av
open Go.Proofs

theorem fold_eq {l m : List (List UInt8)} (h : ∀ x, x ∈ l ↔ x ∈ m) : l.foldl insU [] = m.foldl insU [] := by
  obtain ⟨h1, h2⟩ := fold_ris l [] (by unfold Ris; exact .nil)
  obtain ⟨h3, h4⟩ := fold_ris m [] (by unfold Ris; exact .nil)
  exact ris_uniq h1 h3 fun x => by rw [h2, h4, h x]
/-- the names of pieces -/
def rnP (ps : List (List UInt8)) : Option (List (List UInt8)) := (namesF ps).map fun l => l.foldl insU []
theorem rnP_eq {ps qs : List (List UInt8)} (h : ∀ x, x ∈ ps ↔ x ∈ qs) : rnP ps = rnP qs := by
  unfold rnP namesF
  have e : ps.all okP = qs.all okP := by
    rw [Bool.eq_iff_iff, List.all_eq_true, List.all_eq_true]
    exact ⟨fun k x hx => k x ((h x).2 hx), fun k x hx => k x ((h x).1 hx)⟩
  rw [e]
  split
  · simp only [Option.map_some, Option.some.injEq]
    refine fold_eq fun x => ?_
    simp only [List.mem_map]
    exact ⟨fun ⟨y, hy, e⟩ => ⟨y, (h y).1 hy, e⟩, fun ⟨y, hy, e⟩ => ⟨y, (h y).2 hy, e⟩⟩
  · rfl
theorem upO_facts (c : UInt8) : (upO c = 34 ↔ c = 34) ∧ (upO c = 92 ↔ c = 92) ∧ (upO c = 44 ↔ c = 44) ∧ (upO c = 42 ↔ c = 42) ∧ blO (upO c) = blO c ∧ tokB (upO c) = tokB c ∧ lowO (upO c) = lowO c := by
  have := all256 (p := fun c => ((upO c == 34) == (c == 34)) && ((upO c == 92) == (c == 92)) && ((upO c == 44) == (c == 44)) && ((upO c == 42) == (c == 42)) && (blO (upO c) == blO c) && (tokB (upO c) == tokB c) && (lowO (upO c) == lowO c)) (by kernel_rfl) c
  simp only [Bool.and_eq_true, beq_iff_eq] at this
  obtain ⟨⟨⟨⟨⟨⟨a1, a2⟩, a3⟩, a4⟩, a5⟩, a6⟩, a7⟩ := this
  have f : ∀ {x y k : UInt8}, (x == k) = (y == k) → (x = k ↔ y = k) := fun {x y k} h => by
    rw [← beq_iff_eq (a := x), ← beq_iff_eq (a := y), h]
  exact ⟨f a1, f a2, f a3, f a4, a5, a6, a7⟩
theorem comB_up : ∀ (n : Nat) (ins : Bool) (l : List UInt8), l.length ≤ n → comB ins (upB l) = comB ins l
  | 0, ins, l, h => by obtain rfl : l = [] := List.length_eq_zero_iff.1 (by omega); rfl
  | n + 1, ins, l, h => by
    cases l with
    | nil => rfl
    | cons c l =>
      have hc := upO_facts c
      have e : upB (c :: l) = upO c :: upB l := rfl
      have hl : l.length ≤ n := by simpa using h
      rw [e, comB_cons, comB_cons, comB_up n _ l hl, comB_up n _ l hl]
      have e1 : (upB l).drop 1 = upB (l.drop 1) := by simp [upB]
      have e2 : (upB l = []) ↔ l = [] := by simp [upB]
      rw [e1, comB_up n ins (l.drop 1) (by simp; omega)]
      simp only [hc.1, hc.2.1, hc.2.2.1, e2]
theorem trimR_up (l : List UInt8) : trimR (upB l) = upB (trimR l) := by
  induction l with
  | nil => rfl
  | cons a l ih =>
    have e : upB (a :: l) = upO a :: upB l := rfl
    rw [e, trimR_cons, trimR_cons, ih, (upO_facts a).2.2.2.2.1]
    have e2 : (upB (trimR l) = []) ↔ trimR l = [] := by simp [upB]
    simp only [e2]
    split
    · split <;> rfl
    · rfl
theorem trimL_up (l : List UInt8) : trimL (upB l) = upB (trimL l) := by
  induction l with
  | nil => rfl
  | cons a l ih =>
    have e : upB (a :: l) = upO a :: upB l := rfl
    unfold trimL at ih ⊢
    rw [e, List.dropWhile_cons, List.dropWhile_cons, (upO_facts a).2.2.2.2.1]
    split
    · exact ih
    · rfl
theorem pieceB_up (l : List UInt8) : pieceB (upB l) = (pieceB l).map upB := by
  have e : trimB (upB l) = upB (trimB l) := by unfold trimB; rw [trimR_up, trimL_up]
  have e2 : (upB (trimB l) = []) ↔ trimB l = [] := by simp [upB]
  unfold pieceB
  rw [e]
  simp only [e2]
  split <;> rfl
theorem spl1_up (l : List UInt8) : spl1 (upB l) = (spl1 l).map upB := by
  have : ∀ (n : Nat) (l : List UInt8), l.length ≤ n → spl1 (upB l) = (spl1 l).map upB := by
    intro n
    induction n with
    | zero => intro l h; obtain rfl : l = [] := List.length_eq_zero_iff.1 (by omega); rfl
    | succ n ih =>
      intro l h
      by_cases e : l = []
      · subst e; rfl
      · have h0 : 0 < l.length := List.length_pos_iff.2 e
        have e2 : upB l ≠ [] := by simpa [upB] using e
        have e3 : (upB l).take (comB false l) = upB (l.take (comB false l)) := by simp [upB]
        have e4 : (upB l).drop (comB false l + 1) = upB (l.drop (comB false l + 1)) := by simp [upB]
        rw [spl1_eq e, spl1_eq e2, comB_up _ false l (Nat.le_refl _), e3, e4, pieceB_up, ih _ (by simp; omega), List.map_append]
  exact this _ l (Nat.le_refl _)
theorem okP_up (p : List UInt8) : okP (upB p) = okP p := by
  have e1 : tkB (upB p) = tkB p := by
    unfold tkB upB
    rw [List.all_map]
    have : (p.all (tokB ∘ upO)) = p.all tokB := by congr 1; funext c; exact (upO_facts c).2.2.2.2.2.1
    rw [this]
    cases p <;> simp
  have e2 : (upB p == [42]) = (p == [42]) := by
    match p with
    | [] => rfl
    | [c] =>
      have := (upO_facts c).2.2.2.1
      rw [Bool.eq_iff_iff]
      simpa [upB] using this
    | _ :: _ :: _ => simp [upB]
  unfold okP
  rw [e1, e2]
theorem lowB_up (p : List UInt8) : lowB (upB p) = lowB p := by
  unfold lowB upB
  rw [List.map_map]
  congr 1; funext c; exact (upO_facts c).2.2.2.2.2.2
theorem rnP_up (l r : List (List UInt8)) : rnP (l.map upB ++ r) = rnP (l ++ r) := by
  unfold rnP namesF
  have e : (l.map upB ++ r).all okP = (l ++ r).all okP := by
    rw [List.all_append, List.all_append, List.all_map]
    have : l.all (okP ∘ upB) = l.all okP := by congr 1; funext p; exact okP_up p
    rw [this]
  have e2 : (l.map upB ++ r).map lowB = (l ++ r).map lowB := by
    rw [List.map_append, List.map_append, List.map_map]
    congr 1
    congr 1; funext p; exact lowB_up p
  rw [e, e2]
theorem rnamesN_rnP (vs : List (List UInt8)) : rnamesN vs = rnP (splitB vs) := rfl
theorem vary_order (a b : List UInt8) : rnamesN [b, a, b] = rnamesN [a, b] ∧ rnamesN [upB a, b] = rnamesN [a, b] := by
  simp only [rnamesN_rnP, splitB, List.flatMap_cons, List.flatMap_nil, List.append_nil]
  refine ⟨rnP_eq fun x => ?_, ?_⟩
  · simp only [List.mem_append]
    constructor
    · rintro (h | h | h)
      · exact .inr h
      · exact .inl h
      · exact .inr h
    · rintro (h | h)
      · exact .inr (.inl h)
      · exact .inl h
  · rw [spl1_up, rnP_up]
end Go.Av

/-! part Q99 -/
namespace Go.Av
open Go.Proofs

set_option maxHeartbeats 4000000 in
set_option maxRecDepth 100000 in
theorem law14 (a b : List UInt8) (ha : a.length ≤ 9223372036854775807) (hb : b.length ≤ 9223372036854775807) : PureC Tryd.prog 14 [.str a, .str b] (.bool true) := by
  refine pure_of_aw (ys := [_]) [42] [] [] mixed Tryd.func14 rfl (by kernel_rfl) (by kernel_rfl) (by simp [Tryd.ntmps14]) rfl ?_
  simp
  refine pcall_of awake38 rfl ?_
  by_cases c : a.length ≤ 300
  case neg =>
    have d : (300 : Int) < (a.length : Int) := by omega
    simp [d, show 300 < a.length by omega]
    refine pcall_of awake38 rfl ?_
    simp [Tryd.results14]
  have d : ¬ (300 : Int) < (a.length : Int) := by omega
  by_cases c2 : b.length ≤ 300
  case neg =>
    have d2 : (300 : Int) < (b.length : Int) := by omega
    simp [d, show ¬ 300 < a.length by omega, d2, show 300 < b.length by omega]
    refine pcall_of awake38 rfl ?_
    simp [Tryd.results14]
  have d2 : ¬ (300 : Int) < (b.length : Int) := by omega
  have hup : (upB a).length = a.length := by simp [upB]
  have p1 := names40 [a, b] (by simp) (by simp [totB]; omega) (by simp; omega)
  have p2 := names40 [b, a, b] (by simp) (by simp [totB]; omega) (by simp; omega)
  have p3 := names40 [upB a, b] (by simp) (by simp [totB]; omega) (by simp; omega)
  obtain ⟨e1, e2⟩ := vary_order a b
  rw [vary_names] at p1 p2 p3
  rw [e1] at p2
  rw [e2] at p3
  have hl : ((rnamesN [a, b]).getD []).length ≤ 1000 := by
    cases h : rnamesN [a, b] with
    | none => simp
    | some l =>
      have := rnamesN_len h
      simp [totB] at this
      simp; omega
  clear e1 e2
  generalize rnamesN [a, b] = R at *
  have hS := same42 (R.getD []) (R.getD []) (by omega) (by omega)
  rw [decide_eq_true rfl] at hS
  simp only [List.map_cons, List.map_nil] at p1 p2 p3
  simp [d, show ¬ 300 < a.length by omega, d2, show ¬ 300 < b.length by omega]
  refine pcall_of p1 (by simp) ?_
  simp
  refine pcall_of p2 (by simp) ?_
  simp
  refine ⟨by omega, ?_⟩
  refine aw_loop (fun k : Nat => k ≤ a.length) (fun k => [(1, .p (.str b)), (5, .p (.sl ((R.getD []).map PC.str))), (6, .p (.bool R.isSome)), (7, .p (.sl ((R.getD []).map PC.str))), (8, .p (.bool R.isSome)), (9, .view 0 0 a.length 1 none), (10, .p (.int k))])
    (fun k => ⟨[(0, rowByt (upM a k))], [], 1⟩) (fun k => a.length - k) 0 (by simp) _ (AS.le_refl _ _) (leN_id (by simp [upM])) ?_
  rintro k h1
  have hlen := upM_len a k
  by_cases ck : k < a.length
  · have hat := upM_at a k ck
    have hg : (upM a k)[k]'(by omega) = a[k] := by
      have := List.getElem?_eq_getElem (l := upM a k) (i := k) (by omega)
      rw [hat] at this; injection this with this; exact this.symm
    have hs := upM_set a k ck
    have hrow : ∀ v : UInt8, ((bytesPC (upM a k)).map AV.p).take k ++ AV.p (u8P v) :: ((bytesPC (upM a k)).map AV.p).drop (k + 1) = (bytesPC ((upM a k).set k v)).map AV.p := fun v => by
      rw [← List.map_take, ← List.map_drop]
      simp only [bytesPC, ← List.map_take, ← List.map_drop]
      rw [List.set_eq_take_append_cons_drop, if_pos (by omega)]
      simp
    have hsame : upO a[k] = a[k] → upM a (k + 1) = upM a k := fun e => by
      rw [← hs, e, ← hg]; exact List.set_getElem_self _
    by_cases a1 : 97 ≤ a[k].toNat
    · have b1 : (97 : Int) ≤ (a[k].toNat : Int) := by omega
      by_cases a2 : a[k].toNat ≤ 122
      · have b2 : (a[k].toNat : Int) ≤ 122 := by omega
        have w2 : IntKind.u8.wrap ((a[k].toNat : Int) - 32) = ((upO a[k]).toNat : Int) := by
          rw [wrapU8_id (by omega) (by omega), upO_nat _ a1 a2]
        simp [ck, hlen, hg, a1, b1, a2, b2, w2]
        refine ⟨by omega, k + 1, by omega, by omega, leN_id ?_⟩
        simp [wrap64_id (n := (k : Int) + 1) (by omega) (by omega)]
        rw [← hs]
        have hr := hrow (upO a[k])
        unfold u8P at hr
        rw [hr]
        exact List.prefix_refl _
      · have b2 : ¬ (a[k].toNat : Int) ≤ 122 := by omega
        have hl' : upO a[k] = a[k] := by unfold upO; rw [if_neg (by omega)]
        simp [ck, hlen, hg, a1, b1, a2, b2]
        refine ⟨k + 1, by omega, by omega, leN_id ?_⟩
        simp [wrap64_id (n := (k : Int) + 1) (by omega) (by omega), hsame hl']
    · have b1 : ¬ (97 : Int) ≤ (a[k].toNat : Int) := by omega
      have hl' : upO a[k] = a[k] := by unfold upO; rw [if_neg (by omega)]
      simp [ck, hlen, hg, a1, b1]
      refine ⟨k + 1, by omega, by omega, leN_id ?_⟩
      simp [wrap64_id (n := (k : Int) + 1) (by omega) (by omega), hsame hl']
  obtain rfl : k = a.length := by omega
  simp
  have hM : upM a a.length = upB a := by simp [upM, upB]
  refine cv_of (upB a) (by simp) (by simp) ?_ ?_
  · rw [hM]
    exact bor_byt (M := []) (by simp [upB]) (by simp [lk])
  simp
  refine pcall_of p3 (by simp) ?_
  cases hsm : R.isSome <;>
  · simp
    refine pcall_of hS (by simp) ?_
    simp
    refine pcall_of hS (by simp) ?_
    simp [Tryd.results14]
theorem law14n {x y : PC} (hx : strS x) (hy : strS y) : PureC Tryd.prog 14 [x, y] (.bool true) := by
  obtain ⟨a, rfl, h1⟩ := hx
  obtain ⟨b, rfl, h2⟩ := hy
  exact law14 a b h1 h2
end Go.Av
