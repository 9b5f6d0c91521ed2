/- How values are split, quoted texts are read, what strings.Cut and HasPrefix answer. -/
import Derived.Test.YtpffiikopcpgfaaDoorDh
set_option linter.all false
/-! part Q50 -/
namespace Go.Av
open Go.Proofs

/-- where the first comma stands outside of quotation marks; the length: nowhere -/
def comB : Bool → List UInt8 → Nat
  | _, [] => 0
  | ins, [c] => if c = 44 ∧ ins = false then 0 else 1
  | ins, c :: d :: l => if c = 34 then comB (!ins) (d :: l) + 1 else if c = 92 ∧ ins = true then comB ins l + 2 else if c = 44 ∧ ins = false then 0 else comB ins (d :: l) + 1
theorem comB_cons (ins : Bool) (c : UInt8) (l : List UInt8) : comB ins (c :: l) = if c = 34 then comB (!ins) l + 1 else if c = 92 ∧ ins = true then (if l = [] then 1 else comB ins (l.drop 1) + 2) else if c = 44 ∧ ins = false then 0 else comB ins l + 1 := by
  cases l with
  | nil =>
    unfold comB
    by_cases h1 : c = 34
    · subst h1; simp [comB]
    · by_cases h2 : c = 92 ∧ ins = true
      · obtain ⟨rfl, rfl⟩ := h2; simp
      · by_cases h3 : c = 44 ∧ ins = false
        · obtain ⟨rfl, rfl⟩ := h3; simp
        · simp only [h1, h2, h3, if_false]; try rfl
  | cons d l =>
    conv => lhs; unfold comB
    simp
theorem comB_le : ∀ (n : Nat) (ins : Bool) (l : List UInt8), l.length ≤ n → comB ins l ≤ l.length
  | 0, ins, l, h => by have : l = [] := List.eq_nil_of_length_eq_zero (by omega); subst this; simp [comB]
  | n + 1, ins, [], h => by simp [comB]
  | n + 1, ins, c :: l, h => by
    simp at h
    have h1 := comB_le n (!ins) l h
    have h2 := comB_le n ins l h
    have h3 := comB_le n ins (l.drop 1) (by rw [List.length_drop]; omega)
    rw [List.length_drop] at h3
    rw [comB_cons]
    simp only [List.length_cons]
    split
    · omega
    · split
      · split
        · omega
        · have : l.length ≠ 0 := by intro e; rename_i hne; exact hne (List.eq_nil_of_length_eq_zero e)
          omega
      · split <;> omega
set_option maxHeartbeats 1000000 in
theorem comma99 (l : List UInt8) (hl : l.length ≤ 1000000000) : PureC Tryd.prog 99 [.str l] (.int (comB false l)) := by
  refine pure_of_aw (ys := [_]) [] [] [] mixed Tryd.func99 rfl (by kernel_rfl) (by kernel_rfl) (by simp [Tryd.ntmps99]) rfl ?_
  simp
  obtain ⟨R, hR⟩ : ∃ R, R = comB false l := ⟨_, rfl⟩
  rw [← hR]
  refine aw_loop0 (fun y : Nat × Bool => (y.1 ≤ l.length ∧ R = y.1 + comB y.2 (l.drop y.1)) ∨ (y.1 = l.length + 1 ∧ R = l.length)) (fun y => [(0, .p (.str l)), (3, .p (.bool y.2)), (4, .p (.int y.1))]) (fun y => l.length + 1 - y.1) (0, false) (.inl ⟨by simp, by simp [hR]⟩) (leN_id (by simp)) ?_
  rintro ⟨i, ins⟩ h
  simp only at h
  by_cases c : i < l.length
  · rcases h with ⟨h1, h2⟩ | ⟨h1, _⟩
    case inr => omega
    rw [List.drop_eq_getElem_cons c, comB_cons] at h2
    have ne : ∀ k : UInt8, l[i] ≠ k → ((l[i].toNat : Int) == (k.toNat : Int)) = false := fun k hk => by
      simp; intro e; apply hk; apply UInt8.toNat_inj.1; exact Int.ofNat_inj.1 e
    have w1 := wrap64_id (n := (i : Int) + 1) (by omega) (by omega)
    by_cases a1 : l[i] = 34
    · rw [if_pos a1] at h2
      simp [-Bool.exists_bool, c, a1]
      refine ⟨i + 1, !ins, .inl ⟨by omega, by omega⟩, by omega, leN_id ?_⟩
      simp [w1]
    · rw [if_neg a1] at h2
      have n1 : ((l[i].toNat : Int) == 34) = false := ne 34 a1
      by_cases a2 : l[i] = 92
      · cases ins with
        | true =>
          rw [if_pos ⟨a2, rfl⟩] at h2
          have w2 := wrap64_id (n := (i : Int) + 1 + 1) (by omega) (by omega)
          simp [-Bool.exists_bool, c, a2]
          refine ⟨i + 2, true, ?_, by omega, leN_id ?_⟩
          · by_cases e : l.drop (i + 1) = []
            · rw [if_pos e] at h2
              have : l.length = i + 1 := by have := congrArg List.length e; simp at this; omega
              exact .inr ⟨by omega, by omega⟩
            · rw [if_neg e, List.drop_drop] at h2
              have : l.length ≠ i + 1 := by intro e'; apply e; apply List.eq_nil_of_length_eq_zero; simp; omega
              exact .inl ⟨by omega, by rw [show i + 2 = i + 1 + 1 from rfl]; omega⟩
          · simp [w1, w2]; try omega
        | false =>
          rw [if_neg (by simp), if_neg (by rw [a2]; decide)] at h2
          simp [-Bool.exists_bool, c, a2]
          refine ⟨i + 1, false, .inl ⟨by omega, by omega⟩, by omega, leN_id ?_⟩
          simp [w1]
      · have n2 : ((l[i].toNat : Int) == 92) = false := ne 92 a2
        rw [if_neg (by simp [a2])] at h2
        by_cases a3 : l[i] = 44
        · cases ins with
          | false =>
            rw [if_pos ⟨a3, rfl⟩] at h2
            have e : R = i := by omega
            simp [-Bool.exists_bool, c, a3, e, Tryd.results99]
          | true =>
            rw [if_neg (by simp)] at h2
            simp [-Bool.exists_bool, c, a3]
            refine ⟨i + 1, true, .inl ⟨by omega, by omega⟩, by omega, leN_id ?_⟩
            simp [w1]
        · have n3 : ((l[i].toNat : Int) == 44) = false := ne 44 a3
          rw [if_neg (by simp [a3])] at h2
          simp [-Bool.exists_bool, c, n1, n2, n3]
          refine ⟨i + 1, ins, .inl ⟨by omega, by omega⟩, by omega, leN_id ?_⟩
          simp [w1]
  · have e : R = l.length := by
      rcases h with ⟨h1, h2⟩ | ⟨_, h2⟩
      · obtain rfl : i = l.length := by omega
        rw [List.drop_length] at h2
        simp [comB] at h2; exact h2
      · exact h2
    simp [-Bool.exists_bool, c, e, Tryd.results99]
end Go.Av

/-! part Q51 -/
namespace Go.Av
open Go.Proofs

/-- a piece, unless it is nothing -/
def pieceB (l : List UInt8) : List (List UInt8) := if trimB l = [] then [] else [trimB l]
def spl1F : Nat → List UInt8 → List (List UInt8)
  | 0, _ => []
  | f + 1, l => if l = [] then [] else pieceB (l.take (comB false l)) ++ spl1F f (l.drop (comB false l + 1))
theorem spl1F_fuel : ∀ (f g : Nat) (l : List UInt8), l.length ≤ f → l.length ≤ g → spl1F f l = spl1F g l
  | 0, 0, _, _, _ => rfl
  | 0, g + 1, l, h, _ => by have : l = [] := List.eq_nil_of_length_eq_zero (by omega); subst this; rfl
  | f + 1, 0, l, _, h => by have : l = [] := List.eq_nil_of_length_eq_zero (by omega); subst this; rfl
  | f + 1, g + 1, l, h1, h2 => by
    unfold spl1F
    split
    · rfl
    · rename_i hne
      have : l.length ≠ 0 := fun e => hne (List.eq_nil_of_length_eq_zero e)
      rw [spl1F_fuel f g _ (by rw [List.length_drop]; omega) (by rw [List.length_drop]; omega)]
/-- a text's pieces between commas -/
def spl1 (l : List UInt8) : List (List UInt8) := spl1F l.length l
theorem spl1_nil : spl1 [] = [] := rfl
theorem spl1_eq {l : List UInt8} (h : l ≠ []) : spl1 l = pieceB (l.take (comB false l)) ++ spl1 (l.drop (comB false l + 1)) := by
  unfold spl1
  have : l.length ≠ 0 := fun e => h (List.eq_nil_of_length_eq_zero e)
  obtain ⟨f, hf⟩ : ∃ f, l.length = f + 1 := ⟨l.length - 1, by omega⟩
  conv => lhs; rw [hf]; unfold spl1F
  rw [if_neg h, spl1F_fuel f _ _ (by rw [List.length_drop]; omega) (Nat.le_refl _)]
def splitB (vs : List (List UInt8)) : List (List UInt8) := vs.flatMap spl1
theorem spl1_len (l : List UInt8) : (spl1 l).length ≤ l.length := by
  have : ∀ (n : Nat) (l : List UInt8), l.length ≤ n → (spl1 l).length ≤ l.length := by
    intro n
    induction n with
    | zero => intro l h; have : l = [] := List.eq_nil_of_length_eq_zero (by omega); subst this; simp [spl1_nil]
    | succ n ih =>
      intro l h
      by_cases e : l = []
      · subst e; simp [spl1_nil]
      · rw [spl1_eq e, List.length_append]
        have := ih (l.drop (comB false l + 1)) (by rw [List.length_drop]; omega)
        rw [List.length_drop] at this
        have h1 : (pieceB (l.take (comB false l))).length ≤ 1 := by unfold pieceB; split <;> simp
        have : l.length ≠ 0 := fun e' => e (List.eq_nil_of_length_eq_zero e')
        omega
  exact this _ _ (Nat.le_refl _)
theorem str_width {L : List (List UInt8)} : ∀ y ∈ L.map PC.str, y.width = 1 := by
  intro y hy; obtain ⟨e, _, rfl⟩ := List.mem_map.1 hy; rfl
def totB (vs : List (List UInt8)) : Nat := (vs.map List.length).sum
theorem totB_cons (v : List UInt8) (vs : List (List UInt8)) : totB (v :: vs) = v.length + totB vs := by simp [totB]
theorem splitB_len (vs : List (List UInt8)) : (splitB vs).length ≤ totB vs := by
  induction vs with
  | nil => simp [splitB]
  | cons v vs ih =>
    rw [totB_cons]
    have := spl1_len v
    simp only [splitB, List.flatMap_cons, List.length_append] at ih ⊢
    omega
set_option maxHeartbeats 2000000 in
set_option maxRecDepth 100000 in
theorem split63 (vs : List (List UInt8)) (hv : vs.length ≤ 1000000) (ht : totB vs ≤ 1000000) (hl : ∀ v ∈ vs, v.length ≤ 1000000) : PureC Tryd.prog 63 [.sl (vs.map PC.str)] (.sl ((splitB vs).map PC.str)) := by
  refine pure_of_aw (ys := [_]) [] [] [] mixed Tryd.func63 rfl (by kernel_rfl) (by kernel_rfl) (by simp [Tryd.ntmps63]) rfl ?_
  have hR := splitB_len vs
  obtain ⟨R, hRe⟩ : ∃ R, R = splitB vs := ⟨_, rfl⟩
  rw [← hRe] at hR ⊢
  simp
  refine aw_loop (fun y : Nat × List (List UInt8) => y.1 ≤ vs.length ∧ R = y.2 ++ splitB (vs.drop y.1)) (fun y => [(3, .own 0 (y.2.map PC.str)), (8, .p (.sl (vs.map PC.str))), (9, .p (.int vs.length)), (10, .p (.int y.1))])
    (fun y => ⟨[], [(0, 9, 1)], 1⟩) (fun y => vs.length - y.1) (0, []) ⟨by simp, by simp [hRe]⟩ _ (le_own 3 9 1 [] (.inr ⟨rfl, by simp⟩)) (leN_id (by simp)) ?_
  rintro ⟨i, out⟩ ⟨h1, h2⟩
  simp only at h1 h2
  by_cases c : i < vs.length
  · rw [List.drop_eq_getElem_cons c] at h2
    have hsp : splitB (vs[i] :: vs.drop (i + 1)) = spl1 vs[i] ++ splitB (vs.drop (i + 1)) := rfl
    rw [hsp] at h2
    have hvl := hl vs[i] (List.getElem_mem c)
    simp [c]
    refine aw_loop (fun y : List UInt8 × List (List UInt8) => y.1.length ≤ 1000000 ∧ R = y.2 ++ (spl1 y.1 ++ splitB (vs.drop (i + 1)))) (fun y => [(3, .own 0 (y.2.map PC.str)), (5, .p (.str y.1)), (8, .p (.sl (vs.map PC.str))), (9, .p (.int vs.length)), (10, .p (.int i))])
      (fun y => ⟨[], [(0, 9, 1)], 1⟩) (fun y => y.1.length) (vs[i], out) ⟨hvl, h2⟩ _ (AS.le_refl _ _) (leN_id (by simp)) ?_
    rintro ⟨s, out⟩ ⟨g1, g2⟩
    simp only at g1 g2
    by_cases e : s = []
    · subst e
      rw [spl1_nil, List.nil_append] at g2
      simp
      refine ⟨i + 1, out, ⟨by omega, g2⟩, by omega, leN_id ?_⟩
      simp [wrap64_id (n := (i : Int) + 1) (by omega) (by omega)]
    · have de : (s != []) = true := by simpa using e
      have hcl := comB_le s.length false s (Nat.le_refl _)
      rw [spl1_eq e] at g2
      simp [e, de]
      refine pcall_of (comma99 s (by omega)) (by simp) ?_
      generalize comB false s = n at *
      simp [hcl]
      refine pcall_of (trim96 (s.take n) (by rw [List.length_take]; omega)) (by simp) ?_
      have hsl : s.length ≠ 0 := fun e' => e (List.eq_nil_of_length_eq_zero e')
      have w1 : IntKind.i64.wrap ((n : Int) + 1) = (n : Int) + 1 := wrap64_id (by omega) (by omega)
      have hmin : (if (s.length : Int) < (n : Int) + 1 then (s.length : Int) else (n : Int) + 1) = ((min (n + 1) s.length : Nat) : Int) := by split <;> omega
      have hdr : s.drop (min (n + 1) s.length) = s.drop (n + 1) := by
        by_cases h : n + 1 ≤ s.length
        · rw [Nat.min_eq_left h]
        · rw [Nat.min_eq_right (by omega), List.drop_length, List.drop_of_length_le (by omega)]
      obtain ⟨q, hq⟩ : ∃ q, q = min (n + 1) s.length := ⟨_, rfl⟩
      rw [← hq] at hmin hdr
      have hql : q ≤ s.length := by omega
      obtain ⟨x, hx⟩ : ∃ x, x = trimB (s.take n) := ⟨_, rfl⟩
      rw [← hx]
      unfold pieceB at g2
      rw [← hx] at g2
      have hout : out.length ≤ 1000000 := by
        have := congrArg List.length g2
        rw [List.length_append] at this
        omega
      by_cases hx0 : x = []
      · rw [if_pos hx0, List.nil_append] at g2
        have d0 : (x != []) = false := by simpa using hx0
        simp [hx0, w1, hmin, hql, hdr]
        refine ⟨s.drop (n + 1), out, ⟨by simp; omega, g2⟩, by simp; omega, leN_id ?_⟩
        simp
      · rw [if_neg hx0] at g2
        have d0 : (x != []) = true := by simpa using hx0
        have hw : ∀ y ∈ out.map PC.str, y.width = 1 := str_width
        simp [hx0, d0, w1, hmin, hql, hdr]
        refine ⟨by omega, by omega, s.drop (n + 1), out ++ [x], ⟨by simp; omega, by rw [g2]; simp⟩, by simp; omega, leN_of [(0, 1)] (by simp)⟩
  · obtain rfl : i = vs.length := by omega
    rw [List.drop_length] at h2
    simp [splitB] at h2
    subst h2
    simp [Tryd.results63]
end Go.Av

/-! part Q52 -/
namespace Go.Av
open Go.Proofs

theorem trimR_cons (a : UInt8) (m : List UInt8) : trimR (a :: m) = if trimR m = [] then (if blO a = true then [] else [a]) else a :: trimR m := by
  unfold trimR
  rw [List.reverse_cons, List.dropWhile_append]
  by_cases h : m.reverse.dropWhile blO = []
  · simp [h]
    cases ha : blO a <;> simp [List.dropWhile_cons, ha]
  · have h2 : (m.reverse.dropWhile blO).isEmpty = false := by simpa using h
    simp [h, h2]
theorem trim_comm (l : List UInt8) : trimR (trimL l) = trimB l := by
  unfold trimB
  induction l with
  | nil => rfl
  | cons a m ih =>
    cases ha : blO a with
    | true =>
      have e : trimL (a :: m) = trimL m := by unfold trimL; rw [List.dropWhile_cons, ha]; rfl
      rw [e, ih, trimR_cons]
      by_cases h : trimR m = []
      · rw [if_pos h, ha]; simp [h]
      · rw [if_neg h]
        unfold trimL; rw [List.dropWhile_cons, ha]; rfl
    | false =>
      have e : ∀ m, trimL (a :: m) = a :: m := fun m => by unfold trimL; rw [List.dropWhile_cons, ha]; rfl
      rw [e, trimR_cons]
      by_cases h : trimR m = []
      · rw [if_pos h, ha]; simp [e]
      · rw [if_neg h, e]
theorem rtrim87 (l : List UInt8) (hl : l.length ≤ 1000000000) : PureC Tryd.prog 87 [.str l] (.str (trimB l)) := by
  refine pure_of_aw (ys := [_]) [] [] [] mixed Tryd.func87 rfl (by kernel_rfl) (by kernel_rfl) (by simp [Tryd.ntmps87]) rfl ?_
  rw [← trim_comm]
  simp
  refine aw_loop0 (fun s : List UInt8 => s.length ≤ l.length ∧ trimL l = trimL s) (fun s => [(0, .p (.str s))]) (fun s => s.length) l (by simp) (leN_id (by simp)) ?_
  rintro s ⟨h1, h2⟩
  cases s with
  | nil =>
    have e : trimL l = [] := h2
    simp [e]
    refine aw_loop0 (fun k : Nat => k = 0) (fun k => [(0, .p (.str []))]) (fun k => k) 0 rfl (leN_id (by simp)) ?_
    rintro k rfl
    simp [Tryd.results87, trimR]
  | cons a s =>
    have hd : (0 : Int) < ((s.length : Int) + 1) := by omega
    simp [hd]
    refine pcall_of (rblank98 a) (by simp) ?_
    cases hb : blO a with
    | true =>
      simp
      refine ⟨s, ⟨by simp at h1; omega, ?_⟩, by simp, leN_id ?_⟩
      · rw [h2]; unfold trimL; rw [List.dropWhile_cons, hb]; rfl
      · simp
    | false =>
      have e : trimL l = a :: s := by rw [h2]; unfold trimL; rw [List.dropWhile_cons, hb]; rfl
      obtain ⟨t, ht⟩ : ∃ t, t = a :: s := ⟨_, rfl⟩
      have htl : t.length ≤ 1000000000 := by rw [ht]; omega
      rw [e, ← ht]
      simp [← ht]
      obtain ⟨r, hr⟩ : ∃ r, r = trimR t := ⟨_, rfl⟩
      rw [← hr]
      refine aw_loop0 (fun k : Nat => k ≤ t.length ∧ r = trimR (t.take k)) (fun k => [(0, .p (.str (t.take k)))]) (fun k => k) t.length (by simp [hr]) (leN_id (by simp)) ?_
      rintro k ⟨h1, h2⟩
      have hm : min k t.length = k := Nat.min_eq_left h1
      cases k with
      | zero => rw [h2]; simp [Tryd.results87, trimR]
      | succ k =>
        have hk : k < t.length := by omega
        have hd : (0 : Int) < ((k : Int) + 1) := by omega
        have w1 : IntKind.i64.wrap (k : Int) = (k : Int) := wrap64_id (by omega) (by omega)
        have hsp : t.take (k + 1) = t.take k ++ [t[k]] := List.take_succ_eq_append_getElem hk
        have hb := trimR_snoc (t.take k) t[k]
        rw [← hsp, ← h2] at hb
        simp [hm, hd, w1, hk]
        refine pcall_of (rblank98 t[k]) (by simp) ?_
        cases hz : blO t[k] with
        | false =>
          rw [hz] at hb
          simp at hb
          simp [hb, Tryd.results87]
        | true =>
          rw [hz] at hb
          simp at hb
          simp [hm, w1, hk]
          refine ⟨k, ⟨by omega, hb⟩, by omega, leN_id ?_⟩
          simp [List.take_take]
          try omega
end Go.Av

/-! part Q53 -/
namespace Go.Av
open Go.Proofs

def comS (skip ins : Bool) (l : List UInt8) : Nat := if skip = true then (if l = [] then 0 else 1 + comB ins (l.drop 1)) else comB ins l
theorem comS_nil (skip ins : Bool) : comS skip ins [] = 0 := by unfold comS; split <;> simp [comB]
structure SpS where
  fr : Nat
  i : Nat
  ins : Bool
  sk : Bool
  out : List (List UInt8)
def SpI (s : List UInt8) (R rest : List (List UInt8)) (y : SpS) : Prop :=
  (y.i ≤ s.length ∧ y.fr ≤ y.i ∧ (y.sk = true → y.ins = true) ∧ comB false (s.drop y.fr) = (y.i - y.fr) + comS y.sk y.ins (s.drop y.i) ∧ R = y.out ++ (spl1 (s.drop y.fr) ++ rest)) ∨
  (y.i = s.length + 1 ∧ R = y.out ++ rest)
theorem pieceB_nil : pieceB [] = [] := by unfold pieceB; rw [if_pos (by rfl)]
set_option maxHeartbeats 4000000 in
set_option maxRecDepth 100000 in
theorem rsplit49 (vs : List (List UInt8)) (hv : vs.length ≤ 1000000) (ht : totB vs ≤ 1000000) (hl : ∀ v ∈ vs, v.length ≤ 1000000) : PureC Tryd.prog 49 [.sl (vs.map PC.str)] (.sl ((splitB vs).map PC.str)) := by
  refine pure_of_aw (ys := [_]) [] [] [] mixed Tryd.func49 rfl (by kernel_rfl) (by kernel_rfl) (by simp [Tryd.ntmps49]) rfl ?_
  have hR := splitB_len vs
  obtain ⟨R, hRe⟩ : ∃ R, R = splitB vs := ⟨_, rfl⟩
  rw [← hRe] at hR ⊢
  simp
  refine aw_loop (fun y : Nat × List (List UInt8) => y.1 ≤ vs.length ∧ R = y.2 ++ splitB (vs.drop y.1)) (fun y => [(0, .p (.sl (vs.map PC.str))), (3, .own 0 (y.2.map PC.str)), (4, .p (.int y.1))])
    (fun y => ⟨[], [(0, 9, 1)], 1⟩) (fun y => vs.length - y.1) (0, []) ⟨by simp, by simp [hRe]⟩ _ (le_own 3 9 1 [] (.inr ⟨rfl, by simp⟩)) (leN_id (by simp)) ?_
  rintro ⟨k, out⟩ ⟨h1, h2⟩
  simp only at h1 h2
  by_cases c : k < vs.length
  case neg =>
    obtain rfl : k = vs.length := by omega
    rw [List.drop_length] at h2
    simp [splitB] at h2
    subst h2
    simp [Tryd.results49]
  rw [List.drop_eq_getElem_cons c] at h2
  have hsp : splitB (vs[k] :: vs.drop (k + 1)) = spl1 vs[k] ++ splitB (vs.drop (k + 1)) := rfl
  rw [hsp] at h2
  have hvl := hl vs[k] (List.getElem_mem c)
  simp [c]
  obtain ⟨s, hs⟩ : ∃ s, s = vs[k] := ⟨_, rfl⟩
  obtain ⟨rest, hrest⟩ : ∃ rest, rest = splitB (vs.drop (k + 1)) := ⟨_, rfl⟩
  rw [← hs] at h2 hvl ⊢
  rw [← hrest] at h2
  refine aw_loop (SpI s R rest) (fun y => [(0, .p (.sl (vs.map PC.str))), (3, .own 0 (y.out.map PC.str)), (4, .p (.int k)), (5, .p (.str s)), (6, .p (.int y.fr)), (7, .p (.bool y.ins)), (8, .p (.bool y.sk)), (9, .p (.int y.i))])
    (fun y => ⟨[], [(0, 9, 1)], 1⟩) (fun y => s.length + 1 - y.i) ⟨0, 0, false, false, out⟩ (.inl ⟨by simp, by simp, by simp, by simp [comS], by simpa using h2⟩) _ (AS.le_refl _ _) (leN_id (by simp)) ?_
  rintro ⟨fr, i, ins, sk, out⟩ hI
  have hout : out.length ≤ 1000000 := by
    rcases hI with ⟨_, _, _, _, g⟩ | ⟨_, g⟩ <;>
    · have := congrArg List.length g
      simp only [List.length_append] at this
      omega
  have ne : ∀ (a b : UInt8), a ≠ b → ((a.toNat : Int) == (b.toNat : Int)) = false := fun a b hk => by
    simp; intro e; apply hk; apply UInt8.toNat_inj.1; exact Int.ofNat_inj.1 e
  have hw : ∀ y ∈ out.map PC.str, y.width = 1 := str_width
  by_cases ci : i < s.length
  · rcases hI with ⟨g1, g2, g3, g4, g5⟩ | ⟨g1, _⟩
    case inr => simp only at g1; omega
    simp only at g1 g2 g3 g4 g5
    have w1 := wrap64_id (n := (i : Int) + 1) (by omega) (by omega)
    have ci1 : i ≤ s.length := by omega
    have ci2 : (i : Int) ≤ (s.length : Int) := by omega
    have ci3 : ((i : Int) == (s.length : Int)) = false := by simp; omega
    rw [List.drop_eq_getElem_cons ci] at g4
    by_cases a1 : s[i] = 44 ∧ ins = false
    · obtain ⟨a1, rfl⟩ := a1
      have hsk : sk = false := by cases sk; rfl; simp at g3
      subst hsk
      have e0 : comS false false (s[i] :: s.drop (i + 1)) = 0 := by
        unfold comS; rw [if_neg (by simp), comB_cons, if_neg (by rw [a1]; decide), if_neg (by simp), if_pos ⟨a1, rfl⟩]
      rw [e0, Nat.add_zero] at g4
      have hne : s.drop fr ≠ [] := by intro e; have := congrArg List.length e; simp at this; omega
      rw [spl1_eq hne, g4, List.drop_drop, show fr + (i - fr + 1) = i + 1 by omega, ← List.drop_take] at g5
      simp [-Bool.exists_bool, ci, ci1, ci2, ci3, a1, g2]
      refine pcall_of (rtrim87 ((s.take i).drop fr) (by rw [List.length_drop, List.length_take]; omega)) (by simp) ?_
      unfold pieceB at g5
      generalize trimB ((s.take i).drop fr) = x at *
      by_cases hx0 : x = []
      · rw [if_pos hx0, List.nil_append] at g5
        have d0 : (x != []) = false := by simpa using hx0
        simp [-Bool.exists_bool, hx0]
        refine ⟨⟨i + 1, i + 1, false, false, out⟩, .inl ⟨by simp only; omega, by simp only; omega, fun h => h, ?_, g5⟩, by simp only; omega, leN_id ?_⟩
        · simp [comS]
        · simp [w1]
      · rw [if_neg hx0] at g5
        have d0 : (x != []) = true := by simpa using hx0
        simp [-Bool.exists_bool, hx0, d0]
        refine ⟨by omega, by omega, ⟨i + 1, i + 1, false, false, out ++ [x]⟩, .inl ⟨by simp only; omega, by simp only; omega, fun h => h, ?_, by rw [g5]; simp⟩, by simp only; omega, leN_of [(0, 1)] ?_⟩
        · simp [comS]
        · simp [w1]
    by_cases a2 : sk = true
    · subst a2
      have hins : ins = true := g3 rfl
      subst hins
      have e0 : comS true true (s[i] :: s.drop (i + 1)) = 1 + comS false true (s.drop (i + 1)) := by
        unfold comS; rw [if_pos rfl, if_neg (List.cons_ne_nil _ _), if_neg Bool.false_ne_true]; rfl
      rw [e0] at g4
      by_cases b1 : s[i] = 44
      · simp [-Bool.exists_bool, ci, ci1, ci2, ci3, b1]
        refine ⟨⟨fr, i + 1, true, false, out⟩, .inl ⟨by simp only; omega, by simp only; omega, fun h => by simp at h, by simp only; omega, g5⟩, by simp only; omega, leN_id ?_⟩
        simp [w1]
      · have n1 : ((s[i].toNat : Int) == 44) = false := ne s[i] 44 b1
        simp [-Bool.exists_bool, ci, ci1, ci2, ci3, n1]
        refine ⟨⟨fr, i + 1, true, false, out⟩, .inl ⟨by simp only; omega, by simp only; omega, fun h => by simp at h, by simp only; omega, g5⟩, by simp only; omega, leN_id ?_⟩
        simp [w1]
    have hsk : sk = false := by simpa using a2
    subst hsk
    have e0 : comS false ins (s[i] :: s.drop (i + 1)) = comB ins (s[i] :: s.drop (i + 1)) := by unfold comS; simp
    rw [e0, comB_cons] at g4
    by_cases a3 : s[i] = 34
    · rw [if_pos a3] at g4
      have c1 : comS false (!ins) (s.drop (i + 1)) = comB (!ins) (s.drop (i + 1)) := by unfold comS; simp
      have n1 : ((s[i].toNat : Int) == 44) = false := by rw [a3]; rfl
      have n2 : ((s[i].toNat : Int) == 34) = true := by rw [a3]; rfl
      have n3 : ((s[i].toNat : Int) == 92) = false := by rw [a3]; rfl
      simp [-Bool.exists_bool, ci, ci1, ci2, ci3, n1, n2, n3]
      refine ⟨⟨fr, i + 1, !ins, false, out⟩, .inl ⟨by simp only; omega, by simp only; omega, fun h => by simp at h, by simp only; omega, g5⟩, by simp only; omega, leN_id ?_⟩
      simp [w1]
    rw [if_neg a3] at g4
    have n2 : ((s[i].toNat : Int) == 34) = false := ne s[i] 34 a3
    by_cases a4 : s[i] = 92 ∧ ins = true
    · obtain ⟨a4, rfl⟩ := a4
      rw [if_pos ⟨a4, rfl⟩] at g4
      have n1 : ((s[i].toNat : Int) == 44) = false := by rw [a4]; rfl
      have n3 : ((s[i].toNat : Int) == 92) = true := by rw [a4]; rfl
      have c1 : comB false (s.drop fr) = (i + 1 - fr) + comS true true (s.drop (i + 1)) := by
        unfold comS
        rw [if_pos rfl]
        by_cases e : s.drop (i + 1) = []
        · rw [if_pos e] at g4 ⊢; omega
        · rw [if_neg e] at g4 ⊢; omega
      simp [-Bool.exists_bool, ci, ci1, ci2, ci3, n1, n2, n3]
      refine ⟨⟨fr, i + 1, true, true, out⟩, .inl ⟨by simp only; omega, by simp only; omega, fun _ => rfl, c1, g5⟩, by simp only; omega, leN_id ?_⟩
      simp [w1]
    rw [if_neg a4, if_neg a1] at g4
    have c1 : comS false ins (s.drop (i + 1)) = comB ins (s.drop (i + 1)) := by unfold comS; simp
    have key : SpI s R rest ⟨fr, i + 1, ins, false, out⟩ := .inl ⟨by simp only; omega, by simp only; omega, fun h => by simp at h, by simp only; omega, g5⟩
    by_cases b1 : s[i] = 44
    · have hins : ins = true := by cases ins; exact absurd ⟨b1, rfl⟩ a1; rfl
      subst hins
      have n3 : ((s[i].toNat : Int) == 92) = false := by rw [b1]; rfl
      simp [-Bool.exists_bool, ci, ci1, ci2, ci3, b1]
      refine ⟨⟨fr, i + 1, true, false, out⟩, key, by simp only; omega, leN_id ?_⟩
      simp [w1]
    · have n1 : ((s[i].toNat : Int) == 44) = false := ne s[i] 44 b1
      by_cases b2 : s[i] = 92
      · have hins : ins = false := by cases ins; rfl; exact absurd ⟨b2, rfl⟩ a4
        subst hins
        simp [-Bool.exists_bool, ci, ci1, ci2, ci3, b2]
        refine ⟨⟨fr, i + 1, false, false, out⟩, key, by simp only; omega, leN_id ?_⟩
        simp [w1]
      · have n3 : ((s[i].toNat : Int) == 92) = false := ne s[i] 92 b2
        simp [-Bool.exists_bool, ci, ci1, ci2, ci3, n1, n2, n3]
        refine ⟨⟨fr, i + 1, ins, false, out⟩, key, by simp only; omega, leN_id ?_⟩
        simp [w1]
  · rcases hI with ⟨g1, g2, g3, g4, g5⟩ | ⟨g1, g5⟩
    · simp only at g1 g2 g3 g4 g5
      obtain rfl : i = s.length := by omega
      rw [List.drop_length, comS_nil, Nat.add_zero] at g4
      have w1 := wrap64_id (n := (s.length : Int) + 1) (by omega) (by omega)
      have hp : spl1 (s.drop fr) = pieceB ((s.take s.length).drop fr) := by
        rw [List.take_length]
        by_cases e : s.drop fr = []
        · rw [e, spl1_nil, pieceB_nil]
        · rw [spl1_eq e, g4, List.drop_of_length_le (l := s.drop fr) (by rw [List.length_drop]; omega), spl1_nil, List.append_nil, List.take_of_length_le (by rw [List.length_drop]; omega)]
      rw [hp] at g5
      simp [-Bool.exists_bool, g2]
      rw [List.take_length] at g5
      refine pcall_of (rtrim87 (s.drop fr) (by rw [List.length_drop]; omega)) (by simp) ?_
      unfold pieceB at g5
      generalize trimB (s.drop fr) = x at *
      by_cases hx0 : x = []
      · rw [if_pos hx0, List.nil_append] at g5
        have d0 : (x != []) = false := by simpa using hx0
        simp [-Bool.exists_bool, hx0]
        refine ⟨⟨s.length + 1, s.length + 1, ins, sk, out⟩, .inr ⟨rfl, g5⟩, by simp only; omega, leN_id ?_⟩
        simp [w1]
      · rw [if_neg hx0] at g5
        have d0 : (x != []) = true := by simpa using hx0
        simp [-Bool.exists_bool, hx0, d0]
        refine ⟨by omega, by omega, ⟨s.length + 1, s.length + 1, ins, sk, out ++ [x]⟩, .inr ⟨rfl, by rw [g5]; simp⟩, by simp only; omega, leN_of [(0, 1)] ?_⟩
        simp [w1]
    · simp only at g1 g5
      subst g1
      have ci2 : ¬ (s.length : Int) + 1 ≤ (s.length : Int) := by omega
      have ci4 : ¬ s.length + 1 ≤ s.length := by omega
      rw [hrest] at g5
      simp [-Bool.exists_bool, ci2, ci4]
      refine ⟨k + 1, out, ⟨by omega, g5⟩, by omega, leN_id ?_⟩
      simp [wrap64_id (n := (k : Int) + 1) (by omega) (by omega)]
end Go.Av

/-! part Q54 -/
namespace Go.Av
open Go.Proofs

theorem bytes_snoc (l : List UInt8) (c : UInt8) : bytesPC l ++ [u8P c] = bytesPC (l ++ [c]) := by simp [bytesPC]
set_option maxHeartbeats 1000000 in
theorem rlower32 (l : List UInt8) (hl : l.length ≤ 1000000) : PureC Tryd.prog 32 [.str l] (.str (lowB l)) := by
  refine pure_of_aw (ys := [_]) [] [] [] mixed Tryd.func32 rfl (by kernel_rfl) (by kernel_rfl) (by simp [Tryd.ntmps32]) rfl ?_
  simp
  refine aw_loop (fun k : Nat => k ≤ l.length) (fun k => [(0, .p (.str l)), (3, .own 0 (bytesPC (lowB (l.take k)))), (4, .p (.int k))]) (fun k => ⟨[], [(0, 5, 1)], 1⟩) (fun k => l.length - k) 0 (by simp) _
    (le_own 3 5 1 [] (.inr ⟨rfl, by simp⟩)) (leN_id (by simp [lowB, bytesPC])) ?_
  intro k h1
  have hlen : (lowB (l.take k)).length = k := by simp [lowB]; omega
  by_cases c : k < l.length
  · have hs : lowB (l.take (k + 1)) = lowB (l.take k) ++ [lowO l[k]] := by unfold lowB; rw [List.take_succ_eq_append_getElem c, List.map_append]; rfl
    have hw : ∀ y ∈ bytesPC (lowB (l.take k)), y.width = 1 := fun y hy => bytes_width y hy
    have w1 := wrap64_id (n := (k : Int) + 1) (by omega) (by omega)
    by_cases a : 65 ≤ l[k].toNat ∧ l[k].toNat ≤ 90
    · have b1 : (65 : Int) ≤ (l[k].toNat : Int) := by omega
      have b2 : (l[k].toNat : Int) ≤ 90 := by omega
      have w2 : IntKind.u8.wrap ((l[k].toNat : Int) + 32) = ((lowO l[k]).toNat : Int) := by
        rw [wrapU8_id (by omega) (by omega), lowO_nat _ a.1 a.2]; omega
      simp [c, a.1, a.2, b1, b2, w2, hlen, hw]
      refine ⟨by omega, by omega, by omega, k + 1, by omega, by omega, leN_of [(0, 1)] ?_⟩
      simp [w1, hs, ← bytes_snoc]
    · have hlo : lowO l[k] = l[k] := by unfold lowO; rw [if_neg a]
      rw [hlo] at hs
      by_cases a1 : 65 ≤ l[k].toNat
      · have b1 : (65 : Int) ≤ (l[k].toNat : Int) := by omega
        have a2 : ¬ l[k].toNat ≤ 90 := by omega
        have b2 : ¬ (l[k].toNat : Int) ≤ 90 := by omega
        simp [c, a1, a2, b1, b2, hlen, hw]
        refine ⟨by omega, by omega, by omega, k + 1, by omega, by omega, leN_of [(0, 1)] ?_⟩
        simp [w1, hs, ← bytes_snoc]
      · have b1 : ¬ (65 : Int) ≤ (l[k].toNat : Int) := by omega
        simp [c, a1, b1, hlen, hw]
        refine ⟨by omega, by omega, by omega, k + 1, by omega, by omega, leN_of [(0, 1)] ?_⟩
        simp [w1, hs, ← bytes_snoc]
  · obtain rfl : k = l.length := by omega
    simp [Tryd.results32]
end Go.Av

/-! part Q55 -/
namespace Go.Av
open Go.Proofs

abbrev UnR := List UInt8 × Int × Int
def unqE : UnR := ([], 0, 10)
/-- what a quoted text says, from its place k on -/
def unqG (b : List UInt8) (k : Nat) : List UInt8 → UnR
  | [] => unqE
  | [c] => if c = 34 then (b, ((k + 1 : Nat) : Int), 0) else unqE
  | c :: d :: l => if c = 34 then (b, ((k + 1 : Nat) : Int), 0) else if c = 92 then (if plnB d = true then unqG (b ++ [d]) (k + 2) l else unqE) else if plnB c = true then unqG (b ++ [c]) (k + 1) (d :: l) else unqE
theorem unqG_one (b : List UInt8) (k : Nat) (c : UInt8) : unqG b k [c] = if c = 34 then (b, ((k + 1 : Nat) : Int), 0) else unqE := rfl
theorem unqG_cons (b : List UInt8) (k : Nat) (c : UInt8) (l : List UInt8) : unqG b k (c :: l) = if c = 34 then (b, ((k + 1 : Nat) : Int), 0) else if c = 92 then (if l = [] then unqE else if plnB (l.headD 0) = true then unqG (b ++ [l.headD 0]) (k + 2) (l.drop 1) else unqE) else if plnB c = true then unqG (b ++ [c]) (k + 1) l else unqE := by
  cases l with
  | nil =>
    rw [unqG_one]
    split
    · rfl
    · split
      · rfl
      · split <;> rfl
  | cons d l =>
    conv => lhs; unfold unqG
    simp
def unqB : List UInt8 → UnR
  | [] => unqE
  | c :: l => if c = 34 then unqG [] 1 l else unqE
set_option maxHeartbeats 2000000 in
set_option maxRecDepth 100000 in
theorem runquote102 (l : List UInt8) (hl : l.length ≤ 1000000) : PureC Tryd.prog 102 [.str l] (.tp [.str (unqB l).1, .int (unqB l).2.1, .int (unqB l).2.2]) := by
  refine pure_of_aw (ys := [_, _, _]) [] [] [] mixed Tryd.func102 rfl (by kernel_rfl) (by kernel_rfl) (by simp [Tryd.ntmps102]) rfl ?_
  have ne : ∀ (a b : UInt8), a ≠ b → ((a.toNat : Int) == (b.toNat : Int)) = false := fun a b hk => by
    simp; intro e; apply hk; apply UInt8.toNat_inj.1; exact Int.ofNat_inj.1 e
  generalize hR : unqB l = R
  cases hl0 : l with
  | nil => rw [hl0] at hR; subst hR; simp [unqB, unqE, Tryd.results102]
  | cons a m =>
  have hpos : 0 < l.length := by rw [hl0]; simp
  have hz : ((l.length : Int) == 0) = false := by rw [beq_eq_false_iff_ne]; omega
  have h0 : l[0]'hpos = a := by simp [hl0]
  rw [hl0] at hR
  simp only [unqB] at hR
  rw [← hl0]
  by_cases c0 : a = 34
  case neg =>
    rw [if_neg c0] at hR; subst hR
    have n1 : ((a.toNat : Int) != 34) = true := by have := ne a 34 c0; simpa using this
    simp [hz, hpos, h0, n1, unqE, Tryd.results102]
  rw [if_pos c0] at hR
  have hm : m = l.drop 1 := by rw [hl0]; rfl
  rw [hm] at hR
  clear hm hl0
  simp [hz, hpos, h0, c0]
  refine aw_loop (fun y : Nat × List UInt8 => y.1 ≤ l.length ∧ y.2.length ≤ y.1 ∧ unqG y.2 y.1 (l.drop y.1) = R) (fun y => [(0, .p (.str l)), (5, .own 0 (bytesPC y.2)), (6, .p (.int y.1))]) (fun y => ⟨[], [(0, 5, 1)], 1⟩) (fun y => l.length - y.1) (1, []) ⟨hpos, by simp, hR⟩ _
    (le_own 5 5 1 [] (.inr ⟨rfl, by simp⟩)) (leN_id (by simp [bytesPC])) ?_
  rintro ⟨k, b⟩ ⟨h1, h3, h2⟩
  simp only at h1 h2 h3
  by_cases c : k < l.length
  case neg =>
    obtain rfl : k = l.length := by omega
    rw [List.drop_length] at h2
    subst h2
    simp [unqG, unqE, Tryd.results102]
  rw [List.drop_eq_getElem_cons c, unqG_cons] at h2
  have w1 := wrap64_id (n := (k : Int) + 1) (by omega) (by omega)
  have w2 := wrap64_id (n := (k : Int) + 1 + 1) (by omega) (by omega)
  have hw : ∀ y ∈ bytesPC b, y.width = 1 := fun y hy => bytes_width y hy
  by_cases a1 : l[k] = 34
  · rw [if_pos a1] at h2
    subst h2
    simp [c, a1, w1, Tryd.results102]
  rw [if_neg a1] at h2
  have n1 : ((l[k].toNat : Int) == 34) = false := ne l[k] 34 a1
  by_cases a2 : l[k] = 92
  · rw [if_pos a2] at h2
    by_cases c2 : k + 1 < l.length
    case neg =>
      have e : l.drop (k + 1) = [] := List.drop_of_length_le (by omega)
      rw [if_pos e] at h2
      subst h2
      have d2 : (l.length : Int) ≤ (k : Int) + 1 := by omega
      simp [c, a2, w1, d2, show l.length ≤ k + 1 by omega, unqE, Tryd.results102]
    have e : l.drop (k + 1) = l[k + 1] :: l.drop (k + 2) := List.drop_eq_getElem_cons c2
    rw [e, if_neg (List.cons_ne_nil _ _)] at h2
    simp only [List.headD_cons, List.drop_succ_cons, List.drop_zero] at h2
    have d2 : ¬ (l.length : Int) ≤ (k : Int) + 1 := by omega
    have t1 : ((k : Int) + 1).toNat = k + 1 := by omega
    have p1 : (0 : Int) ≤ (k : Int) + 1 := by omega
    simp [c, a2, w1, d2, show ¬ l.length ≤ k + 1 by omega, c2, t1, p1]
    refine pcall_of (rplain97 l[k + 1]) (by simp) ?_
    cases hp : plnB l[k + 1] with
    | false =>
      rw [hp, if_neg (by simp)] at h2
      subst h2
      simp [unqE, Tryd.results102]
    | true =>
      rw [hp, if_pos rfl] at h2
      simp [c2, t1, p1, w2]
      refine ⟨hw, by omega, by omega, k + 2, b ++ [l[k + 1]], ⟨by omega, by simp; omega, h2⟩, by omega, leN_of [(0, 1)] ?_⟩
      simp [← bytes_snoc]
      try omega
  · rw [if_neg a2] at h2
    have n2 : ((l[k].toNat : Int) == 92) = false := ne l[k] 92 a2
    have d2 : ¬ (l.length : Int) ≤ (k : Int) := by omega
    simp [c, n1, n2, d2, show ¬ l.length ≤ k by omega]
    refine pcall_of (rplain97 l[k]) (by simp) ?_
    cases hp : plnB l[k] with
    | false =>
      rw [hp, if_neg (by simp)] at h2
      subst h2
      simp [unqE, Tryd.results102]
    | true =>
      rw [hp, if_pos rfl] at h2
      simp [c, w1]
      refine ⟨hw, by omega, by omega, k + 1, b ++ [l[k]], ⟨by omega, by simp; omega, h2⟩, by omega, leN_of [(0, 1)] ?_⟩
      simp [← bytes_snoc]
end Go.Av

/-! part Q56 -/
namespace Go.Av
open Go.Proofs

theorem prefix145 (l : List UInt8) (c : UInt8) : PureC Tryd.prog 145 [.str l, .str [c]] (.bool (decide (l.head? = some c))) := by
  refine pure_of_aw (ys := [_]) [] [] [] mixed Tryd.func145 rfl (by kernel_rfl) (by kernel_rfl) (by simp [Tryd.ntmps145]) rfl ?_
  cases l with
  | nil => simp [Tryd.results145]
  | cons a l =>
    have d : (1 : Int) ≤ (l.length : Int) + 1 := by omega
    simp [d, Tryd.results145]
    by_cases h : a = c <;> simp [h]
theorem prefix117 (l : List UInt8) (c : UInt8) : PureC Tryd.prog 117 [.str l, .str [c]] (.bool (decide (l.head? = some c))) := by
  refine pure_of_aw (ys := [_]) [] [] [] mixed Tryd.func117 rfl (by kernel_rfl) (by kernel_rfl) (by simp [Tryd.ntmps117]) rfl ?_
  simp
  refine pcall_of (prefix145 l c) (by simp) ?_
  simp [Tryd.results117]
def cutB (l : List UInt8) (c : UInt8) : List UInt8 × List UInt8 × Bool := if ixB l c < 0 then (l, [], false) else (l.take (ixB l c).toNat, l.drop ((ixB l c).toNat + 1), true)
theorem cut116 (l : List UInt8) (c : UInt8) (hl : l.length ≤ 1000000000) : PureC Tryd.prog 116 [.str l, .str [c]] (.tp [.str (cutB l c).1, .str (cutB l c).2.1, .bool (cutB l c).2.2]) := by
  refine pure_of_aw (ys := [_, _, _]) [] [] [] mixed Tryd.func116 rfl (by kernel_rfl) (by kernel_rfl) (by simp [Tryd.ntmps116]) rfl ?_
  simp
  refine pcall_of (index136 l c) (by simp) ?_
  have h1 := ixB_lt l c
  unfold cutB
  generalize ixB l c = n at *
  by_cases h : n < 0
  · have d : ¬ 0 ≤ n := by omega
    simp [h, d, Tryd.results116]
  · obtain ⟨k, rfl⟩ : ∃ k : Nat, n = k := ⟨n.toNat, by omega⟩
    have w1 := wrap64_id (n := (k : Int) + 1) (by omega) (by omega)
    have t1 : ((k : Int) + 1).toNat = k + 1 := by omega
    have p1 : (0 : Int) ≤ (k : Int) + 1 := by omega
    have q1 : k + 1 ≤ l.length := by omega
    have q2 : k ≤ l.length := by omega
    simp [h, w1, t1, p1, q1, q2, Tryd.results116]
theorem cut100 (l : List UInt8) (c : UInt8) (hl : l.length ≤ 1000000000) : PureC Tryd.prog 100 [.str l, .str [c]] (.tp [.str (cutB l c).1, .str (cutB l c).2.1, .bool (cutB l c).2.2]) := by
  refine pure_of_aw (ys := [_, _, _]) [] [] [] mixed Tryd.func100 rfl (by kernel_rfl) (by kernel_rfl) (by simp [Tryd.ntmps100]) rfl ?_
  simp
  refine pcall_of (cut116 l c hl) (by simp) ?_
  simp [Tryd.results100]
end Go.Av
