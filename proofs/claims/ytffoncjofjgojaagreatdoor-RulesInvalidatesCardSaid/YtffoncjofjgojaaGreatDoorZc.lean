/- How values are split, quoted texts are read, what strings.Cut and HasPrefix answer; octet.Unquote over strings.Builder; what a directive is read as. -/
import Derived.Test.YtffoncjofjgojaaGreatDoorZb
import Derived.Test.YtffoncjofjgojaaGreatDoorProg
import Derived.Shelf.Lays
import Derived.Shelf.Strings.OnBuilder
import Derived.BigCall
import Derived.Deep.LoopGhost
import Derived.OwnWalk
import Derived.Lib.RabinKarpLaws
set_option linter.all false
/-! part Z50 -/
namespace Go.Av
open Go.Proofs
set_option maxRecDepth 100000


/-- where the first comma stands outside of quotation marks; the length: nowhere -/
def comB : Bool → List UInt8 → Nat
  | _, [] => 0
  | ins, [c] => if c = 44 ∧ ins = false then 0 else 1
  | ins, c :: d :: l => if c = 34 then comB (!ins) (d :: l) + 1 else if c = 92 ∧ ins = true then comB ins l + 2 else if c = 44 ∧ ins = false then 0 else comB ins (d :: l) + 1
theorem comB_cons (ins : Bool) (c : UInt8) (l : List UInt8) : comB ins (c :: l) = if c = 34 then comB (!ins) l + 1 else if c = 92 ∧ ins = true then (if l = [] then 1 else comB ins (l.drop 1) + 2) else if c = 44 ∧ ins = false then 0 else comB ins l + 1 := by
  cases l with
  | nil =>
    unfold comB
    by_cases h1 : c = 34
    · subst h1; simp [comB]
    · by_cases h2 : c = 92 ∧ ins = true
      · obtain ⟨rfl, rfl⟩ := h2; simp
      · by_cases h3 : c = 44 ∧ ins = false
        · obtain ⟨rfl, rfl⟩ := h3; simp
        · simp only [h1, h2, h3, if_false]; try rfl
  | cons d l =>
    conv => lhs; unfold comB
    simp
theorem comB_le : ∀ (n : Nat) (ins : Bool) (l : List UInt8), l.length ≤ n → comB ins l ≤ l.length
  | 0, ins, l, h => by have : l = [] := List.eq_nil_of_length_eq_zero (by omega); subst this; simp [comB]
  | n + 1, ins, [], h => by simp [comB]
  | n + 1, ins, c :: l, h => by
    simp at h
    have h1 := comB_le n (!ins) l h
    have h2 := comB_le n ins l h
    have h3 := comB_le n ins (l.drop 1) (by rw [List.length_drop]; omega)
    rw [List.length_drop] at h3
    rw [comB_cons]
    simp only [List.length_cons]
    split
    · omega
    · split
      · split
        · omega
        · have : l.length ≠ 0 := by intro e; rename_i hne; exact hne (List.eq_nil_of_length_eq_zero e)
          omega
      · split <;> omega
set_option maxHeartbeats 1000000 in
theorem comma99 (l : List UInt8) (hl : l.length ≤ 1000000000) : PureC Tryz.prog 99 [.str l] (.int (comB false l)) := by
  refine pure_of_aw (ys := [_]) [] [] [] mixed Tryz.func99 rfl (by kernel_rfl) (by kernel_rfl) (by simp [Tryz.ntmps99]) rfl ?_
  simp
  obtain ⟨R, hR⟩ : ∃ R, R = comB false l := ⟨_, rfl⟩
  rw [← hR]
  refine aw_loop0 (fun y : Nat × Bool => (y.1 ≤ l.length ∧ R = y.1 + comB y.2 (l.drop y.1)) ∨ (y.1 = l.length + 1 ∧ R = l.length)) (fun y => [(0, .p (.str l)), (3, .p (.bool y.2)), (4, .p (.int y.1))]) (fun y => l.length + 1 - y.1) (0, false) (.inl ⟨by simp, by simp [hR]⟩) (leN_id (by simp)) ?_
  rintro ⟨i, ins⟩ h
  simp only at h
  by_cases c : i < l.length
  · rcases h with ⟨h1, h2⟩ | ⟨h1, _⟩
    case inr => omega
    rw [List.drop_eq_getElem_cons c, comB_cons] at h2
    have ne : ∀ k : UInt8, l[i] ≠ k → ((l[i].toNat : Int) == (k.toNat : Int)) = false := fun k hk => by
      simp; intro e; apply hk; apply UInt8.toNat_inj.1; exact Int.ofNat_inj.1 e
    have w1 := wrap64_id (n := (i : Int) + 1) (by omega) (by omega)
    by_cases a1 : l[i] = 34
    · rw [if_pos a1] at h2
      simp [-Bool.exists_bool, c, a1]
      refine ⟨i + 1, !ins, .inl ⟨by omega, by omega⟩, by omega, leN_id ?_⟩
      simp [w1]
    · rw [if_neg a1] at h2
      have n1 : ((l[i].toNat : Int) == 34) = false := ne 34 a1
      by_cases a2 : l[i] = 92
      · cases ins with
        | true =>
          rw [if_pos ⟨a2, rfl⟩] at h2
          have w2 := wrap64_id (n := (i : Int) + 1 + 1) (by omega) (by omega)
          simp [-Bool.exists_bool, c, a2]
          refine ⟨i + 2, true, ?_, by omega, leN_id ?_⟩
          · by_cases e : l.drop (i + 1) = []
            · rw [if_pos e] at h2
              have : l.length = i + 1 := by have := congrArg List.length e; simp at this; omega
              exact .inr ⟨by omega, by omega⟩
            · rw [if_neg e, List.drop_drop] at h2
              have : l.length ≠ i + 1 := by intro e'; apply e; apply List.eq_nil_of_length_eq_zero; simp; omega
              exact .inl ⟨by omega, by rw [show i + 2 = i + 1 + 1 from rfl]; omega⟩
          · simp [w1, w2]; try omega
        | false =>
          rw [if_neg (by simp), if_neg (by rw [a2]; decide)] at h2
          simp [-Bool.exists_bool, c, a2]
          refine ⟨i + 1, false, .inl ⟨by omega, by omega⟩, by omega, leN_id ?_⟩
          simp [w1]
      · have n2 : ((l[i].toNat : Int) == 92) = false := ne 92 a2
        rw [if_neg (by simp [a2])] at h2
        by_cases a3 : l[i] = 44
        · cases ins with
          | false =>
            rw [if_pos ⟨a3, rfl⟩] at h2
            have e : R = i := by omega
            simp [-Bool.exists_bool, c, a3, e, Tryz.results99]
          | true =>
            rw [if_neg (by simp)] at h2
            simp [-Bool.exists_bool, c, a3]
            refine ⟨i + 1, true, .inl ⟨by omega, by omega⟩, by omega, leN_id ?_⟩
            simp [w1]
        · have n3 : ((l[i].toNat : Int) == 44) = false := ne 44 a3
          rw [if_neg (by simp [a3])] at h2
          simp [-Bool.exists_bool, c, n1, n2, n3]
          refine ⟨i + 1, ins, .inl ⟨by omega, by omega⟩, by omega, leN_id ?_⟩
          simp [w1]
  · have e : R = l.length := by
      rcases h with ⟨h1, h2⟩ | ⟨_, h2⟩
      · obtain rfl : i = l.length := by omega
        rw [List.drop_length] at h2
        simp [comB] at h2; exact h2
      · exact h2
    simp [-Bool.exists_bool, c, e, Tryz.results99]

/-- a piece, unless it is nothing -/
def pieceB (l : List UInt8) : List (List UInt8) := if trimB l = [] then [] else [trimB l]
def spl1F : Nat → List UInt8 → List (List UInt8)
  | 0, _ => []
  | f + 1, l => if l = [] then [] else pieceB (l.take (comB false l)) ++ spl1F f (l.drop (comB false l + 1))
theorem spl1F_fuel : ∀ (f g : Nat) (l : List UInt8), l.length ≤ f → l.length ≤ g → spl1F f l = spl1F g l
  | 0, 0, _, _, _ => rfl
  | 0, g + 1, l, h, _ => by have : l = [] := List.eq_nil_of_length_eq_zero (by omega); subst this; rfl
  | f + 1, 0, l, _, h => by have : l = [] := List.eq_nil_of_length_eq_zero (by omega); subst this; rfl
  | f + 1, g + 1, l, h1, h2 => by
    unfold spl1F
    split
    · rfl
    · rename_i hne
      have : l.length ≠ 0 := fun e => hne (List.eq_nil_of_length_eq_zero e)
      rw [spl1F_fuel f g _ (by rw [List.length_drop]; omega) (by rw [List.length_drop]; omega)]
/-- a text's pieces between commas -/
def spl1 (l : List UInt8) : List (List UInt8) := spl1F l.length l
theorem spl1_nil : spl1 [] = [] := rfl
theorem spl1_eq {l : List UInt8} (h : l ≠ []) : spl1 l = pieceB (l.take (comB false l)) ++ spl1 (l.drop (comB false l + 1)) := by
  unfold spl1
  have : l.length ≠ 0 := fun e => h (List.eq_nil_of_length_eq_zero e)
  obtain ⟨f, hf⟩ : ∃ f, l.length = f + 1 := ⟨l.length - 1, by omega⟩
  conv => lhs; rw [hf]; unfold spl1F
  rw [if_neg h, spl1F_fuel f _ _ (by rw [List.length_drop]; omega) (Nat.le_refl _)]
def splitB (vs : List (List UInt8)) : List (List UInt8) := vs.flatMap spl1
theorem spl1_len (l : List UInt8) : (spl1 l).length ≤ l.length := by
  have : ∀ (n : Nat) (l : List UInt8), l.length ≤ n → (spl1 l).length ≤ l.length := by
    intro n
    induction n with
    | zero => intro l h; have : l = [] := List.eq_nil_of_length_eq_zero (by omega); subst this; simp [spl1_nil]
    | succ n ih =>
      intro l h
      by_cases e : l = []
      · subst e; simp [spl1_nil]
      · rw [spl1_eq e, List.length_append]
        have := ih (l.drop (comB false l + 1)) (by rw [List.length_drop]; omega)
        rw [List.length_drop] at this
        have h1 : (pieceB (l.take (comB false l))).length ≤ 1 := by unfold pieceB; split <;> simp
        have : l.length ≠ 0 := fun e' => e (List.eq_nil_of_length_eq_zero e')
        omega
  exact this _ _ (Nat.le_refl _)
theorem str_width {L : List (List UInt8)} : ∀ y ∈ L.map PC.str, y.width = 1 := by
  intro y hy; obtain ⟨e, _, rfl⟩ := List.mem_map.1 hy; rfl
def totB (vs : List (List UInt8)) : Nat := (vs.map List.length).sum
theorem totB_cons (v : List UInt8) (vs : List (List UInt8)) : totB (v :: vs) = v.length + totB vs := by simp [totB]
theorem splitB_len (vs : List (List UInt8)) : (splitB vs).length ≤ totB vs := by
  induction vs with
  | nil => simp [splitB]
  | cons v vs ih =>
    rw [totB_cons]
    have := spl1_len v
    simp only [splitB, List.flatMap_cons, List.length_append] at ih ⊢
    omega
set_option maxHeartbeats 2000000 in
set_option maxRecDepth 100000 in
theorem split63 (vs : List (List UInt8)) (hv : vs.length ≤ 1000000) (ht : totB vs ≤ 1000000) (hl : ∀ v ∈ vs, v.length ≤ 1000000) : PureC Tryz.prog 64 [.sl (vs.map PC.str)] (.sl ((splitB vs).map PC.str)) := by
  refine pure_of_aw (ys := [_]) [] [] [] mixed Tryz.func64 rfl (by kernel_rfl) (by kernel_rfl) (by simp [Tryz.ntmps64]) rfl ?_
  have hR := splitB_len vs
  obtain ⟨R, hRe⟩ : ∃ R, R = splitB vs := ⟨_, rfl⟩
  rw [← hRe] at hR ⊢
  simp
  refine aw_loop (fun y : Nat × List (List UInt8) => y.1 ≤ vs.length ∧ R = y.2 ++ splitB (vs.drop y.1)) (fun y => [(3, .own 0 (y.2.map PC.str)), (8, .p (.sl (vs.map PC.str))), (9, .p (.int vs.length)), (10, .p (.int y.1))])
    (fun y => ⟨[], [(0, 9, 1)], 1⟩) (fun y => vs.length - y.1) (0, []) ⟨by simp, by simp [hRe]⟩ _ (le_own 3 9 1 [] (.inr ⟨rfl, by simp⟩)) (leN_id (by simp)) ?_
  rintro ⟨i, out⟩ ⟨h1, h2⟩
  simp only at h1 h2
  by_cases c : i < vs.length
  · rw [List.drop_eq_getElem_cons c] at h2
    have hsp : splitB (vs[i] :: vs.drop (i + 1)) = spl1 vs[i] ++ splitB (vs.drop (i + 1)) := rfl
    rw [hsp] at h2
    have hvl := hl vs[i] (List.getElem_mem c)
    simp [c]
    refine aw_loop (fun y : List UInt8 × List (List UInt8) => y.1.length ≤ 1000000 ∧ R = y.2 ++ (spl1 y.1 ++ splitB (vs.drop (i + 1)))) (fun y => [(3, .own 0 (y.2.map PC.str)), (5, .p (.str y.1)), (8, .p (.sl (vs.map PC.str))), (9, .p (.int vs.length)), (10, .p (.int i))])
      (fun y => ⟨[], [(0, 9, 1)], 1⟩) (fun y => y.1.length) (vs[i], out) ⟨hvl, h2⟩ _ (AS.le_refl _ _) (leN_id (by simp)) ?_
    rintro ⟨s, out⟩ ⟨g1, g2⟩
    simp only at g1 g2
    by_cases e : s = []
    · subst e
      rw [spl1_nil, List.nil_append] at g2
      simp
      refine ⟨i + 1, out, ⟨by omega, g2⟩, by omega, leN_id ?_⟩
      simp [wrap64_id (n := (i : Int) + 1) (by omega) (by omega)]
    · have de : (s != []) = true := by simpa using e
      have hcl := comB_le s.length false s (Nat.le_refl _)
      rw [spl1_eq e] at g2
      simp [e, de]
      refine pcall_of (comma99 s (by omega)) (by simp) ?_
      generalize comB false s = n at *
      simp [hcl]
      refine pcall_of (trim96 (s.take n) (by rw [List.length_take]; omega)) (by simp) ?_
      have hsl : s.length ≠ 0 := fun e' => e (List.eq_nil_of_length_eq_zero e')
      have w1 : IntKind.i64.wrap ((n : Int) + 1) = (n : Int) + 1 := wrap64_id (by omega) (by omega)
      have hmin : (if (s.length : Int) < (n : Int) + 1 then (s.length : Int) else (n : Int) + 1) = ((min (n + 1) s.length : Nat) : Int) := by split <;> omega
      have hdr : s.drop (min (n + 1) s.length) = s.drop (n + 1) := by
        by_cases h : n + 1 ≤ s.length
        · rw [Nat.min_eq_left h]
        · rw [Nat.min_eq_right (by omega), List.drop_length, List.drop_of_length_le (by omega)]
      obtain ⟨q, hq⟩ : ∃ q, q = min (n + 1) s.length := ⟨_, rfl⟩
      rw [← hq] at hmin hdr
      have hql : q ≤ s.length := by omega
      obtain ⟨x, hx⟩ : ∃ x, x = trimB (s.take n) := ⟨_, rfl⟩
      rw [← hx]
      unfold pieceB at g2
      rw [← hx] at g2
      have hout : out.length ≤ 1000000 := by
        have := congrArg List.length g2
        rw [List.length_append] at this
        omega
      by_cases hx0 : x = []
      · rw [if_pos hx0, List.nil_append] at g2
        have d0 : (x != []) = false := by simpa using hx0
        simp [hx0, w1, hmin, hql, hdr]
        refine ⟨s.drop (n + 1), out, ⟨by simp; omega, g2⟩, by simp; omega, leN_id ?_⟩
        simp
      · rw [if_neg hx0] at g2
        have d0 : (x != []) = true := by simpa using hx0
        have hw : ∀ y ∈ out.map PC.str, y.width = 1 := str_width
        simp [hx0, d0, w1, hmin, hql, hdr]
        refine ⟨by omega, by omega, s.drop (n + 1), out ++ [x], ⟨by simp; omega, by rw [g2]; simp⟩, by simp; omega, leN_of [(0, 1)] (by simp)⟩
  · obtain rfl : i = vs.length := by omega
    rw [List.drop_length] at h2
    simp [splitB] at h2
    subst h2
    simp [Tryz.results64]

theorem trimR_cons (a : UInt8) (m : List UInt8) : trimR (a :: m) = if trimR m = [] then (if blO a = true then [] else [a]) else a :: trimR m := by
  unfold trimR
  rw [List.reverse_cons, List.dropWhile_append]
  by_cases h : m.reverse.dropWhile blO = []
  · simp [h]
    cases ha : blO a <;> simp [List.dropWhile_cons, ha]
  · have h2 : (m.reverse.dropWhile blO).isEmpty = false := by simpa using h
    simp [h, h2]
theorem trim_comm (l : List UInt8) : trimR (trimL l) = trimB l := by
  unfold trimB
  induction l with
  | nil => rfl
  | cons a m ih =>
    cases ha : blO a with
    | true =>
      have e : trimL (a :: m) = trimL m := by unfold trimL; rw [List.dropWhile_cons, ha]; rfl
      rw [e, ih, trimR_cons]
      by_cases h : trimR m = []
      · rw [if_pos h, ha]; simp [h]
      · rw [if_neg h]
        unfold trimL; rw [List.dropWhile_cons, ha]; rfl
    | false =>
      have e : ∀ m, trimL (a :: m) = a :: m := fun m => by unfold trimL; rw [List.dropWhile_cons, ha]; rfl
      rw [e, trimR_cons]
      by_cases h : trimR m = []
      · rw [if_pos h, ha]; simp [e]
      · rw [if_neg h, e]
theorem rtrim87 (l : List UInt8) (hl : l.length ≤ 1000000000) : PureC Tryz.prog 82 [.str l] (.str (trimB l)) := by
  refine pure_of_aw (ys := [_]) [] [] [] mixed Tryz.func82 rfl (by kernel_rfl) (by kernel_rfl) (by simp [Tryz.ntmps82]) rfl ?_
  rw [← trim_comm]
  simp
  refine aw_loop0 (fun s : List UInt8 => s.length ≤ l.length ∧ trimL l = trimL s) (fun s => [(0, .p (.str s))]) (fun s => s.length) l (by simp) (leN_id (by simp)) ?_
  rintro s ⟨h1, h2⟩
  cases s with
  | nil =>
    have e : trimL l = [] := h2
    simp [e]
    refine aw_loop0 (fun k : Nat => k = 0) (fun k => [(0, .p (.str []))]) (fun k => k) 0 rfl (leN_id (by simp)) ?_
    rintro k rfl
    simp [Tryz.results82, trimR]
  | cons a s =>
    have hd : (0 : Int) < ((s.length : Int) + 1) := by omega
    simp [hd]
    refine pcall_of (rblank98 a) (by simp) ?_
    cases hb : blO a with
    | true =>
      simp
      refine ⟨s, ⟨by simp at h1; omega, ?_⟩, by simp, leN_id ?_⟩
      · rw [h2]; unfold trimL; rw [List.dropWhile_cons, hb]; rfl
      · simp
    | false =>
      have e : trimL l = a :: s := by rw [h2]; unfold trimL; rw [List.dropWhile_cons, hb]; rfl
      obtain ⟨t, ht⟩ : ∃ t, t = a :: s := ⟨_, rfl⟩
      have htl : t.length ≤ 1000000000 := by rw [ht]; omega
      rw [e, ← ht]
      simp [← ht]
      obtain ⟨r, hr⟩ : ∃ r, r = trimR t := ⟨_, rfl⟩
      rw [← hr]
      refine aw_loop0 (fun k : Nat => k ≤ t.length ∧ r = trimR (t.take k)) (fun k => [(0, .p (.str (t.take k)))]) (fun k => k) t.length (by simp [hr]) (leN_id (by simp)) ?_
      rintro k ⟨h1, h2⟩
      have hm : min k t.length = k := Nat.min_eq_left h1
      cases k with
      | zero => rw [h2]; simp [Tryz.results82, trimR]
      | succ k =>
        have hk : k < t.length := by omega
        have hd : (0 : Int) < ((k : Int) + 1) := by omega
        have w1 : IntKind.i64.wrap (k : Int) = (k : Int) := wrap64_id (by omega) (by omega)
        have hsp : t.take (k + 1) = t.take k ++ [t[k]] := List.take_succ_eq_append_getElem hk
        have hb := trimR_snoc (t.take k) t[k]
        rw [← hsp, ← h2] at hb
        simp [hm, hd, w1, hk]
        refine pcall_of (rblank98 t[k]) (by simp) ?_
        cases hz : blO t[k] with
        | false =>
          rw [hz] at hb
          simp at hb
          simp [hb, Tryz.results82]
        | true =>
          rw [hz] at hb
          simp at hb
          simp [hm, w1, hk]
          refine ⟨k, ⟨by omega, hb⟩, by omega, leN_id ?_⟩
          simp [List.take_take]
          try omega

def comS (skip ins : Bool) (l : List UInt8) : Nat := if skip = true then (if l = [] then 0 else 1 + comB ins (l.drop 1)) else comB ins l
theorem comS_nil (skip ins : Bool) : comS skip ins [] = 0 := by unfold comS; split <;> simp [comB]
structure SpS where
  fr : Nat
  i : Nat
  ins : Bool
  sk : Bool
  out : List (List UInt8)
def SpI (s : List UInt8) (R rest : List (List UInt8)) (y : SpS) : Prop :=
  (y.i ≤ s.length ∧ y.fr ≤ y.i ∧ (y.sk = true → y.ins = true) ∧ comB false (s.drop y.fr) = (y.i - y.fr) + comS y.sk y.ins (s.drop y.i) ∧ R = y.out ++ (spl1 (s.drop y.fr) ++ rest)) ∨
  (y.i = s.length + 1 ∧ R = y.out ++ rest)
theorem pieceB_nil : pieceB [] = [] := by unfold pieceB; rw [if_pos (by rfl)]
set_option maxHeartbeats 4000000 in
set_option maxRecDepth 100000 in
theorem rsplit49 (vs : List (List UInt8)) (hv : vs.length ≤ 1000000) (ht : totB vs ≤ 1000000) (hl : ∀ v ∈ vs, v.length ≤ 1000000) : PureC Tryz.prog 38 [.sl (vs.map PC.str)] (.sl ((splitB vs).map PC.str)) := by
  refine pure_of_aw (ys := [_]) [] [] [] mixed Tryz.func38 rfl (by kernel_rfl) (by kernel_rfl) (by simp [Tryz.ntmps38]) rfl ?_
  have hR := splitB_len vs
  obtain ⟨R, hRe⟩ : ∃ R, R = splitB vs := ⟨_, rfl⟩
  rw [← hRe] at hR ⊢
  simp
  refine aw_loop (fun y : Nat × List (List UInt8) => y.1 ≤ vs.length ∧ R = y.2 ++ splitB (vs.drop y.1)) (fun y => [(0, .p (.sl (vs.map PC.str))), (3, .own 0 (y.2.map PC.str)), (4, .p (.int y.1))])
    (fun y => ⟨[], [(0, 9, 1)], 1⟩) (fun y => vs.length - y.1) (0, []) ⟨by simp, by simp [hRe]⟩ _ (le_own 3 9 1 [] (.inr ⟨rfl, by simp⟩)) (leN_id (by simp)) ?_
  rintro ⟨k, out⟩ ⟨h1, h2⟩
  simp only at h1 h2
  by_cases c : k < vs.length
  case neg =>
    obtain rfl : k = vs.length := by omega
    rw [List.drop_length] at h2
    simp [splitB] at h2
    subst h2
    simp [Tryz.results38]
  rw [List.drop_eq_getElem_cons c] at h2
  have hsp : splitB (vs[k] :: vs.drop (k + 1)) = spl1 vs[k] ++ splitB (vs.drop (k + 1)) := rfl
  rw [hsp] at h2
  have hvl := hl vs[k] (List.getElem_mem c)
  simp [c]
  obtain ⟨s, hs⟩ : ∃ s, s = vs[k] := ⟨_, rfl⟩
  obtain ⟨rest, hrest⟩ : ∃ rest, rest = splitB (vs.drop (k + 1)) := ⟨_, rfl⟩
  rw [← hs] at h2 hvl ⊢
  rw [← hrest] at h2
  refine aw_loop (SpI s R rest) (fun y => [(0, .p (.sl (vs.map PC.str))), (3, .own 0 (y.out.map PC.str)), (4, .p (.int k)), (5, .p (.str s)), (6, .p (.int y.fr)), (7, .p (.bool y.ins)), (8, .p (.bool y.sk)), (9, .p (.int y.i))])
    (fun y => ⟨[], [(0, 9, 1)], 1⟩) (fun y => s.length + 1 - y.i) ⟨0, 0, false, false, out⟩ (.inl ⟨by simp, by simp, by simp, by simp [comS], by simpa using h2⟩) _ (AS.le_refl _ _) (leN_id (by simp)) ?_
  rintro ⟨fr, i, ins, sk, out⟩ hI
  have hout : out.length ≤ 1000000 := by
    rcases hI with ⟨_, _, _, _, g⟩ | ⟨_, g⟩ <;>
    · have := congrArg List.length g
      simp only [List.length_append] at this
      omega
  have ne : ∀ (a b : UInt8), a ≠ b → ((a.toNat : Int) == (b.toNat : Int)) = false := fun a b hk => by
    simp; intro e; apply hk; apply UInt8.toNat_inj.1; exact Int.ofNat_inj.1 e
  have hw : ∀ y ∈ out.map PC.str, y.width = 1 := str_width
  by_cases ci : i < s.length
  · rcases hI with ⟨g1, g2, g3, g4, g5⟩ | ⟨g1, _⟩
    case inr => simp only at g1; omega
    simp only at g1 g2 g3 g4 g5
    have w1 := wrap64_id (n := (i : Int) + 1) (by omega) (by omega)
    have ci1 : i ≤ s.length := by omega
    have ci2 : (i : Int) ≤ (s.length : Int) := by omega
    have ci3 : ((i : Int) == (s.length : Int)) = false := by simp; omega
    rw [List.drop_eq_getElem_cons ci] at g4
    by_cases a1 : s[i] = 44 ∧ ins = false
    · obtain ⟨a1, rfl⟩ := a1
      have hsk : sk = false := by cases sk; rfl; simp at g3
      subst hsk
      have e0 : comS false false (s[i] :: s.drop (i + 1)) = 0 := by
        unfold comS; rw [if_neg (by simp), comB_cons, if_neg (by rw [a1]; decide), if_neg (by simp), if_pos ⟨a1, rfl⟩]
      rw [e0, Nat.add_zero] at g4
      have hne : s.drop fr ≠ [] := by intro e; have := congrArg List.length e; simp at this; omega
      rw [spl1_eq hne, g4, List.drop_drop, show fr + (i - fr + 1) = i + 1 by omega, ← List.drop_take] at g5
      simp [-Bool.exists_bool, ci, ci1, ci2, ci3, a1, g2]
      refine pcall_of (rtrim87 ((s.take i).drop fr) (by rw [List.length_drop, List.length_take]; omega)) (by simp) ?_
      unfold pieceB at g5
      generalize trimB ((s.take i).drop fr) = x at *
      by_cases hx0 : x = []
      · rw [if_pos hx0, List.nil_append] at g5
        have d0 : (x != []) = false := by simpa using hx0
        simp [-Bool.exists_bool, hx0]
        refine ⟨⟨i + 1, i + 1, false, false, out⟩, .inl ⟨by simp only; omega, by simp only; omega, fun h => h, ?_, g5⟩, by simp only; omega, leN_id ?_⟩
        · simp [comS]
        · simp [w1]
      · rw [if_neg hx0] at g5
        have d0 : (x != []) = true := by simpa using hx0
        simp [-Bool.exists_bool, hx0, d0]
        refine ⟨by omega, by omega, ⟨i + 1, i + 1, false, false, out ++ [x]⟩, .inl ⟨by simp only; omega, by simp only; omega, fun h => h, ?_, by rw [g5]; simp⟩, by simp only; omega, leN_of [(0, 1)] ?_⟩
        · simp [comS]
        · simp [w1]
    by_cases a2 : sk = true
    · subst a2
      have hins : ins = true := g3 rfl
      subst hins
      have e0 : comS true true (s[i] :: s.drop (i + 1)) = 1 + comS false true (s.drop (i + 1)) := by
        unfold comS; rw [if_pos rfl, if_neg (List.cons_ne_nil _ _), if_neg Bool.false_ne_true]; rfl
      rw [e0] at g4
      by_cases b1 : s[i] = 44
      · simp [-Bool.exists_bool, ci, ci1, ci2, ci3, b1]
        refine ⟨⟨fr, i + 1, true, false, out⟩, .inl ⟨by simp only; omega, by simp only; omega, fun h => by simp at h, by simp only; omega, g5⟩, by simp only; omega, leN_id ?_⟩
        simp [w1]
      · have n1 : ((s[i].toNat : Int) == 44) = false := ne s[i] 44 b1
        simp [-Bool.exists_bool, ci, ci1, ci2, ci3, n1]
        refine ⟨⟨fr, i + 1, true, false, out⟩, .inl ⟨by simp only; omega, by simp only; omega, fun h => by simp at h, by simp only; omega, g5⟩, by simp only; omega, leN_id ?_⟩
        simp [w1]
    have hsk : sk = false := by simpa using a2
    subst hsk
    have e0 : comS false ins (s[i] :: s.drop (i + 1)) = comB ins (s[i] :: s.drop (i + 1)) := by unfold comS; simp
    rw [e0, comB_cons] at g4
    by_cases a3 : s[i] = 34
    · rw [if_pos a3] at g4
      have c1 : comS false (!ins) (s.drop (i + 1)) = comB (!ins) (s.drop (i + 1)) := by unfold comS; simp
      have n1 : ((s[i].toNat : Int) == 44) = false := by rw [a3]; rfl
      have n2 : ((s[i].toNat : Int) == 34) = true := by rw [a3]; rfl
      have n3 : ((s[i].toNat : Int) == 92) = false := by rw [a3]; rfl
      simp [-Bool.exists_bool, ci, ci1, ci2, ci3, n1, n2, n3]
      refine ⟨⟨fr, i + 1, !ins, false, out⟩, .inl ⟨by simp only; omega, by simp only; omega, fun h => by simp at h, by simp only; omega, g5⟩, by simp only; omega, leN_id ?_⟩
      simp [w1]
    rw [if_neg a3] at g4
    have n2 : ((s[i].toNat : Int) == 34) = false := ne s[i] 34 a3
    by_cases a4 : s[i] = 92 ∧ ins = true
    · obtain ⟨a4, rfl⟩ := a4
      rw [if_pos ⟨a4, rfl⟩] at g4
      have n1 : ((s[i].toNat : Int) == 44) = false := by rw [a4]; rfl
      have n3 : ((s[i].toNat : Int) == 92) = true := by rw [a4]; rfl
      have c1 : comB false (s.drop fr) = (i + 1 - fr) + comS true true (s.drop (i + 1)) := by
        unfold comS
        rw [if_pos rfl]
        by_cases e : s.drop (i + 1) = []
        · rw [if_pos e] at g4 ⊢; omega
        · rw [if_neg e] at g4 ⊢; omega
      simp [-Bool.exists_bool, ci, ci1, ci2, ci3, n1, n2, n3]
      refine ⟨⟨fr, i + 1, true, true, out⟩, .inl ⟨by simp only; omega, by simp only; omega, fun _ => rfl, c1, g5⟩, by simp only; omega, leN_id ?_⟩
      simp [w1]
    rw [if_neg a4, if_neg a1] at g4
    have c1 : comS false ins (s.drop (i + 1)) = comB ins (s.drop (i + 1)) := by unfold comS; simp
    have key : SpI s R rest ⟨fr, i + 1, ins, false, out⟩ := .inl ⟨by simp only; omega, by simp only; omega, fun h => by simp at h, by simp only; omega, g5⟩
    by_cases b1 : s[i] = 44
    · have hins : ins = true := by cases ins; exact absurd ⟨b1, rfl⟩ a1; rfl
      subst hins
      have n3 : ((s[i].toNat : Int) == 92) = false := by rw [b1]; rfl
      simp [-Bool.exists_bool, ci, ci1, ci2, ci3, b1]
      refine ⟨⟨fr, i + 1, true, false, out⟩, key, by simp only; omega, leN_id ?_⟩
      simp [w1]
    · have n1 : ((s[i].toNat : Int) == 44) = false := ne s[i] 44 b1
      by_cases b2 : s[i] = 92
      · have hins : ins = false := by cases ins; rfl; exact absurd ⟨b2, rfl⟩ a4
        subst hins
        simp [-Bool.exists_bool, ci, ci1, ci2, ci3, b2]
        refine ⟨⟨fr, i + 1, false, false, out⟩, key, by simp only; omega, leN_id ?_⟩
        simp [w1]
      · have n3 : ((s[i].toNat : Int) == 92) = false := ne s[i] 92 b2
        simp [-Bool.exists_bool, ci, ci1, ci2, ci3, n1, n2, n3]
        refine ⟨⟨fr, i + 1, ins, false, out⟩, key, by simp only; omega, leN_id ?_⟩
        simp [w1]
  · rcases hI with ⟨g1, g2, g3, g4, g5⟩ | ⟨g1, g5⟩
    · simp only at g1 g2 g3 g4 g5
      obtain rfl : i = s.length := by omega
      rw [List.drop_length, comS_nil, Nat.add_zero] at g4
      have w1 := wrap64_id (n := (s.length : Int) + 1) (by omega) (by omega)
      have hp : spl1 (s.drop fr) = pieceB ((s.take s.length).drop fr) := by
        rw [List.take_length]
        by_cases e : s.drop fr = []
        · rw [e, spl1_nil, pieceB_nil]
        · rw [spl1_eq e, g4, List.drop_of_length_le (l := s.drop fr) (by rw [List.length_drop]; omega), spl1_nil, List.append_nil, List.take_of_length_le (by rw [List.length_drop]; omega)]
      rw [hp] at g5
      simp [-Bool.exists_bool, g2]
      rw [List.take_length] at g5
      refine pcall_of (rtrim87 (s.drop fr) (by rw [List.length_drop]; omega)) (by simp) ?_
      unfold pieceB at g5
      generalize trimB (s.drop fr) = x at *
      by_cases hx0 : x = []
      · rw [if_pos hx0, List.nil_append] at g5
        have d0 : (x != []) = false := by simpa using hx0
        simp [-Bool.exists_bool, hx0]
        refine ⟨⟨s.length + 1, s.length + 1, ins, sk, out⟩, .inr ⟨rfl, g5⟩, by simp only; omega, leN_id ?_⟩
        simp [w1]
      · rw [if_neg hx0] at g5
        have d0 : (x != []) = true := by simpa using hx0
        simp [-Bool.exists_bool, hx0, d0]
        refine ⟨by omega, by omega, ⟨s.length + 1, s.length + 1, ins, sk, out ++ [x]⟩, .inr ⟨rfl, by rw [g5]; simp⟩, by simp only; omega, leN_of [(0, 1)] ?_⟩
        simp [w1]
    · simp only at g1 g5
      subst g1
      have ci2 : ¬ (s.length : Int) + 1 ≤ (s.length : Int) := by omega
      have ci4 : ¬ s.length + 1 ≤ s.length := by omega
      rw [hrest] at g5
      simp [-Bool.exists_bool, ci2, ci4]
      refine ⟨k + 1, out, ⟨by omega, g5⟩, by omega, leN_id ?_⟩
      simp [wrap64_id (n := (k : Int) + 1) (by omega) (by omega)]

theorem bytes_snoc (l : List UInt8) (c : UInt8) : bytesPC l ++ [u8P c] = bytesPC (l ++ [c]) := by simp [bytesPC]
set_option maxHeartbeats 1000000 in
theorem rlower32 (l : List UInt8) (hl : l.length ≤ 1000000) : PureC Tryz.prog 68 [.str l] (.str (lowB l)) := by
  refine pure_of_aw (ys := [_]) [] [] [] mixed Tryz.func68 rfl (by kernel_rfl) (by kernel_rfl) (by simp [Tryz.ntmps68]) rfl ?_
  simp
  refine aw_loop (fun k : Nat => k ≤ l.length) (fun k => [(0, .p (.str l)), (3, .own 0 (bytesPC (lowB (l.take k)))), (4, .p (.int k))]) (fun k => ⟨[], [(0, 5, 1)], 1⟩) (fun k => l.length - k) 0 (by simp) _
    (le_own 3 5 1 [] (.inr ⟨rfl, by simp⟩)) (leN_id (by simp [lowB, bytesPC])) ?_
  intro k h1
  have hlen : (lowB (l.take k)).length = k := by simp [lowB]; omega
  by_cases c : k < l.length
  · have hs : lowB (l.take (k + 1)) = lowB (l.take k) ++ [lowO l[k]] := by unfold lowB; rw [List.take_succ_eq_append_getElem c, List.map_append]; rfl
    have hw : ∀ y ∈ bytesPC (lowB (l.take k)), y.width = 1 := fun y hy => bytes_width y hy
    have w1 := wrap64_id (n := (k : Int) + 1) (by omega) (by omega)
    by_cases a : 65 ≤ l[k].toNat ∧ l[k].toNat ≤ 90
    · have b1 : (65 : Int) ≤ (l[k].toNat : Int) := by omega
      have b2 : (l[k].toNat : Int) ≤ 90 := by omega
      have w2 : IntKind.u8.wrap ((l[k].toNat : Int) + 32) = ((lowO l[k]).toNat : Int) := by
        rw [wrapU8_id (by omega) (by omega), lowO_nat _ a.1 a.2]; omega
      simp [c, a.1, a.2, b1, b2, w2, hlen, hw]
      refine ⟨by omega, by omega, by omega, k + 1, by omega, by omega, leN_of [(0, 1)] ?_⟩
      simp [w1, hs, ← bytes_snoc]
    · have hlo : lowO l[k] = l[k] := by unfold lowO; rw [if_neg a]
      rw [hlo] at hs
      by_cases a1 : 65 ≤ l[k].toNat
      · have b1 : (65 : Int) ≤ (l[k].toNat : Int) := by omega
        have a2 : ¬ l[k].toNat ≤ 90 := by omega
        have b2 : ¬ (l[k].toNat : Int) ≤ 90 := by omega
        simp [c, a1, a2, b1, b2, hlen, hw]
        refine ⟨by omega, by omega, by omega, k + 1, by omega, by omega, leN_of [(0, 1)] ?_⟩
        simp [w1, hs, ← bytes_snoc]
      · have b1 : ¬ (65 : Int) ≤ (l[k].toNat : Int) := by omega
        simp [c, a1, b1, hlen, hw]
        refine ⟨by omega, by omega, by omega, k + 1, by omega, by omega, leN_of [(0, 1)] ?_⟩
        simp [w1, hs, ← bytes_snoc]
  · obtain rfl : k = l.length := by omega
    simp [Tryz.results68]

abbrev UnR := List UInt8 × Int × Int
def unqE : UnR := ([], 0, 10)
/-- what a quoted text says, from its place k on -/
def unqG (b : List UInt8) (k : Nat) : List UInt8 → UnR
  | [] => unqE
  | [c] => if c = 34 then (b, ((k + 1 : Nat) : Int), 0) else unqE
  | c :: d :: l => if c = 34 then (b, ((k + 1 : Nat) : Int), 0) else if c = 92 then (if plnB d = true then unqG (b ++ [d]) (k + 2) l else unqE) else if plnB c = true then unqG (b ++ [c]) (k + 1) (d :: l) else unqE
theorem unqG_one (b : List UInt8) (k : Nat) (c : UInt8) : unqG b k [c] = if c = 34 then (b, ((k + 1 : Nat) : Int), 0) else unqE := rfl
theorem unqG_cons (b : List UInt8) (k : Nat) (c : UInt8) (l : List UInt8) : unqG b k (c :: l) = if c = 34 then (b, ((k + 1 : Nat) : Int), 0) else if c = 92 then (if l = [] then unqE else if plnB (l.headD 0) = true then unqG (b ++ [l.headD 0]) (k + 2) (l.drop 1) else unqE) else if plnB c = true then unqG (b ++ [c]) (k + 1) l else unqE := by
  cases l with
  | nil =>
    rw [unqG_one]
    split
    · rfl
    · split
      · rfl
      · split <;> rfl
  | cons d l =>
    conv => lhs; unfold unqG
    simp
def unqB : List UInt8 → UnR
  | [] => unqE
  | c :: l => if c = 34 then unqG [] 1 l else unqE
end Go.Av

/-! part Z56 -/
namespace Go.Av
open Go.Proofs
set_option maxRecDepth 100000


theorem prefix145 (l : List UInt8) (c : UInt8) : PureC Tryz.prog 143 [.str l, .str [c]] (.bool (decide (l.head? = some c))) := by
  refine pure_of_aw (ys := [_]) [] [] [] mixed Tryz.func143 rfl (by kernel_rfl) (by kernel_rfl) (by simp [Tryz.ntmps143]) rfl ?_
  cases l with
  | nil => simp [Tryz.results143]
  | cons a l =>
    have d : (1 : Int) ≤ (l.length : Int) + 1 := by omega
    simp [d, Tryz.results143]
    by_cases h : a = c <;> simp [h]
theorem prefix117 (l : List UInt8) (c : UInt8) : PureC Tryz.prog 107 [.str l, .str [c]] (.bool (decide (l.head? = some c))) := by
  refine pure_of_aw (ys := [_]) [] [] [] mixed Tryz.func107 rfl (by kernel_rfl) (by kernel_rfl) (by simp [Tryz.ntmps107]) rfl ?_
  simp
  refine pcall_of (prefix145 l c) (by simp) ?_
  simp [Tryz.results107]
def cutB (l : List UInt8) (c : UInt8) : List UInt8 × List UInt8 × Bool := if ixB l c < 0 then (l, [], false) else (l.take (ixB l c).toNat, l.drop ((ixB l c).toNat + 1), true)
theorem cut116 (l : List UInt8) (c : UInt8) (hl : l.length ≤ 1000000000) : PureC Tryz.prog 142 [.str l, .str [c]] (.tp [.str (cutB l c).1, .str (cutB l c).2.1, .bool (cutB l c).2.2]) := by
  refine pure_of_aw (ys := [_, _, _]) [] [] [] mixed Tryz.func142 rfl (by kernel_rfl) (by kernel_rfl) (by simp [Tryz.ntmps142]) rfl ?_
  simp
  refine pcall_of (index136 l c) (by simp) ?_
  have h1 := ixB_lt l c
  unfold cutB
  generalize ixB l c = n at *
  by_cases h : n < 0
  · have d : ¬ 0 ≤ n := by omega
    simp [h, d, Tryz.results142]
  · obtain ⟨k, rfl⟩ : ∃ k : Nat, n = k := ⟨n.toNat, by omega⟩
    have w1 := wrap64_id (n := (k : Int) + 1) (by omega) (by omega)
    have t1 : ((k : Int) + 1).toNat = k + 1 := by omega
    have p1 : (0 : Int) ≤ (k : Int) + 1 := by omega
    have q1 : k + 1 ≤ l.length := by omega
    have q2 : k ≤ l.length := by omega
    simp [h, w1, t1, p1, q1, q2, Tryz.results142]
theorem cut100 (l : List UInt8) (c : UInt8) (hl : l.length ≤ 1000000000) : PureC Tryz.prog 106 [.str l, .str [c]] (.tp [.str (cutB l c).1, .str (cutB l c).2.1, .bool (cutB l c).2.2]) := by
  refine pure_of_aw (ys := [_, _, _]) [] [] [] mixed Tryz.func106 rfl (by kernel_rfl) (by kernel_rfl) (by simp [Tryz.ntmps106]) rfl ?_
  simp
  refine pcall_of (cut116 l c hl) (by simp) ?_
  simp [Tryz.results106]
end Go.Av

/-! part TryzBld -/
namespace Go.Proofs
open Go.Shelf
def Tryz.renB : Go.Shelf.Ren := ⟨fun | 167 => 188 | 166 => 237 | 169 => 191 | 240 => 234 | 276 => 255 | 277 => 261 | 241 => 257 | n => n, fun | 31 => 61 | 9 => 9 | 3 => 3 | 4 => 4 | 0 => 0 | 20 => 20 | 72 => 194 | 76 => 220 | 70 => 192 | 37 => 25 | 75 => 197 | 127 => 217 | 164 => 231 | 5 => 5 | 80 => 200 | n => n, fun | n => n⟩
theorem Tryz.l167 : Go.Proofs.Lays.n167 Tryz.prog Tryz.renB := {
  mixed := by kernel_rfl
  f167 := Tryz.func188.trans (congrArg some (by kernel_rfl))
  f240 := Tryz.func234.trans (congrArg some (by kernel_rfl))
  f276 := Tryz.func255.trans (congrArg some (by kernel_rfl))
  t0 := Tryz.underlying0
  a0 := Tryz.isAgg0
  z0 := Tryz.sizeOf0
  v0 := Tryz.zeroValue0
  t4 := Tryz.underlying4
  a4 := Tryz.isAgg4
  z4 := Tryz.sizeOf4
  v4 := Tryz.zeroValue4
  t5 := Tryz.underlying5
  a5 := Tryz.isAgg5
  z5 := Tryz.sizeOf5
  v5 := Tryz.zeroValue5
  t9 := Tryz.underlying9
  a9 := Tryz.isAgg9
  z9 := Tryz.sizeOf9
  v9 := Tryz.zeroValue9
  t20 := Tryz.underlying20
  a20 := Tryz.isAgg20
  z20 := Tryz.sizeOf20
  v20 := Tryz.zeroValue20
  t37 := Tryz.underlying25
  a37 := Tryz.isAgg25
  z37 := Tryz.sizeOf25
  v37 := Tryz.zeroValue25
  t70 := Tryz.underlying192
  a70 := Tryz.isAgg192
  z70 := Tryz.sizeOf192
  v70 := Tryz.zeroValue192
  t72 := Tryz.underlying194
  a72 := Tryz.isAgg194
  z72 := Tryz.sizeOf194
  v72 := Tryz.zeroValue194
  t75 := Tryz.underlying197
  a75 := Tryz.isAgg197
  z75 := Tryz.sizeOf197
  v75 := Tryz.zeroValue197
  t164 := Tryz.underlying231
  a164 := Tryz.isAgg231
  z164 := Tryz.sizeOf231
  v164 := Tryz.zeroValue231
  }
theorem Tryz.l169 : Go.Proofs.Lays.n169 Tryz.prog Tryz.renB := {
  mixed := by kernel_rfl
  f169 := Tryz.func191.trans (congrArg some (by kernel_rfl))
  t0 := Tryz.underlying0
  a0 := Tryz.isAgg0
  z0 := Tryz.sizeOf0
  v0 := Tryz.zeroValue0
  t3 := Tryz.underlying3
  a3 := Tryz.isAgg3
  z3 := Tryz.sizeOf3
  v3 := Tryz.zeroValue3
  t9 := Tryz.underlying9
  a9 := Tryz.isAgg9
  z9 := Tryz.sizeOf9
  v9 := Tryz.zeroValue9
  t37 := Tryz.underlying25
  a37 := Tryz.isAgg25
  z37 := Tryz.sizeOf25
  v37 := Tryz.zeroValue25
  t70 := Tryz.underlying192
  a70 := Tryz.isAgg192
  z70 := Tryz.sizeOf192
  v70 := Tryz.zeroValue192
  t72 := Tryz.underlying194
  a72 := Tryz.isAgg194
  z72 := Tryz.sizeOf194
  v72 := Tryz.zeroValue194
  t127 := Tryz.underlying217
  a127 := Tryz.isAgg217
  z127 := Tryz.sizeOf217
  v127 := Tryz.zeroValue217
  }
theorem Tryz.bldX : Builder.Extra Tryz.prog Tryz.renB := {
  sizeBuilder := by kernel_rfl
  liesBuilder := by kernel_rfl
  t5 := Tryz.underlying5
  a5 := Tryz.isAgg5
  z5 := Tryz.sizeOf5
  v5 := Tryz.zeroValue5
  infoByte := by kernel_rfl
  cellsByte := by kernel_rfl
  sizeByte := by kernel_rfl
  neB5 := by decide }
end Go.Proofs

/-! part Z57 -/
namespace Go.Av
open Go.Proofs Go.RowKit
set_option maxRecDepth 100000


set_option maxHeartbeats 1000000 in
theorem plain_any (x : UInt8) (w : World) : Calls Tryz.prog 213 #[.int .u8 x.toNat] w fun e w' => e = .returned (.bool (plnB x)) ∧ w' = w := by
  go_enter Tryz.func213, Tryz.ntmps213
  unfold plnB
  generalize x.toNat = k
  by_cases h1 : 32 ≤ k
  · have d1 : (32 : Int) ≤ (k : Int) := by omega
    by_cases h2 : k = 127
    · subst h2
      go_wp2
      go_ret
      exact ⟨rfl, rfl⟩
    · have d2 : ¬ (k : Int) = 127 := by omega
      go_wp2
      go_ret
      refine ⟨?_, rfl⟩
      simp [h1, h2]
  · have d1 : ¬ (32 : Int) ≤ (k : Int) := by omega
    by_cases h2 : k = 9
    · subst h2
      go_wp2
      go_ret
      exact ⟨rfl, rfl⟩
    · have d2 : ¬ (k : Int) = 9 := by omega
      go_wp2
      go_ret
      refine ⟨?_, rfl⟩
      simp [h1, h2]
      omega
theorem byteCells_snoc (b : List UInt8) (x : UInt8) : Lib.byteCells b ++ [.int .u8 x.toNat] = Lib.byteCells (b ++ [x]) := by
  simp [Lib.byteCells]
set_option maxHeartbeats 4000000 in
set_option maxRecDepth 1000000 in
theorem unquote_any (s : ByteArray) (w : World) (hs : s.size ≤ 1000000) (h0 : 0 < s.size) (hq : s[0]'h0 = 34) :
    Calls Tryz.prog 161 #[.string s] w fun e w' => e = .returned (.tuple #[.string ⟨(unqG [] 1 (s.data.toList.drop 1)).1.toArray⟩, .int .i64 (unqG [] 1 (s.data.toList.drop 1)).2.1, .int .i64 (unqG [] 1 (s.data.toList.drop 1)).2.2]) ∧ Below w.heap.size w w' := by
  generalize hR : unqG [] 1 (s.data.toList.drop 1) = R
  have hx : ((s.extract 0 1).toList == [34]) = true := by
    have e : s.extract 0 1 = ⟨#[34]⟩ := by
      apply ByteArray.ext
      apply Array.ext'
      have hl : s.data.toList[0]? = some 34 := by rw [← hq]; exact Lib.data_getElem? s 0 h0
      simp only [ByteArray.data_extract, Array.toList_extract]
      cases hs : s.data.toList with
      | nil => rw [hs] at hl; simp at hl
      | cons a m => rw [hs] at hl; simp at hl; subst hl; simp [List.extract]
    rw [e]
    have e2 : (⟨#[34]⟩ : ByteArray).toList = [34] := by rw [ByteArray.toList_mk]
    rw [e2]; rfl
  have HX : Aside (((s.extract 0 1).toList == [34]) = true) := hx
  go_enter Tryz.func161, Tryz.ntmps161
  go_wp2
  go_loopg [6] s.size (fun g s6 wx => ∃ (k : Nat) (b : List UInt8), s6 = .int .i64 k ∧ 1 ≤ k ∧ k ≤ s.size ∧ s.size ≤ k + g ∧ b.length ≤ k ∧ Lib.IsBuilder 194 5 w.heap.size w.heap.size (Lib.byteCells b) wx ∧ Below w.heap.size w wx ∧ unqG b k (s.data.toList.drop k) = R)
  case atStart =>
    exact ⟨1, [], rfl, Nat.le_refl _, h0, by omega, by simp, Lib.fresh_isBuilder 194 5 w, (Below.refl _ w).alloc (Nat.le_refl _) _, hR⟩
  case round =>
    obtain ⟨k, b, rfl, hk1, hks, hkg, hbl, hI, hB, hU⟩ := hrel
    have HU : Aside (unqG b k (s.data.toList.drop k) = R) := hU
    clear hU
    have HI : Aside (Lib.IsBuilder 194 5 w.heap.size w.heap.size (Lib.byteCells b) wr) := hI
    have hBs : w.heap.size ≤ wr.heap.size := hB.size
    by_cases hk : k < s.size
    case neg =>
      obtain rfl : k = s.size := by omega
      have hkz : ¬ ((s.size : Int) < (s.size : Int)) := by omega
      have hR2 := HU.out
      rw [List.drop_of_length_le (by rw [← Lib.size_eq]; exact Nat.le_refl _)] at hR2
      have hR3 : unqE = R := hR2
      subst hR3
      go_wp2
      go_ret3
      exact ⟨rfl, hB⟩
    have hkz : (k : Int) < (s.size : Int) := by omega
    obtain ⟨x, hxk⟩ : ∃ x : UInt8, s[k]'hk = x := ⟨_, rfl⟩
    have hxl : s.data.toList[k]? = some x := by rw [← hxk]; exact Lib.data_getElem? s k hk
    have hdrop : s.data.toList.drop k = x :: s.data.toList.drop (k + 1) := by
      have hlt := (List.getElem?_eq_some_iff.1 hxl).1
      rw [List.drop_eq_getElem_cons hlt, (List.getElem?_eq_some_iff.1 hxl).2]
    have hR2 := HU.out
    rw [hdrop, unqG_cons] at hR2
    by_cases a1 : x = 34
    · subst a1
      rw [if_pos rfl] at hR2
      subst hR2
      go_wp2_with (go_at_call 191; refine (Any.Builder_String_any Tryz.l169 Tryz.bldX w.heap.size w.heap.size b _ hI hBs).mono ?_)
      rintro e W1 ⟨rfl, b1⟩
      go_wp2
      go_ret3
      exact ⟨by simp, hB.trans b1⟩
    rw [if_neg a1] at hR2
    have n1 : ¬ ((x.toNat : Int) = 34) := fun h => a1 (UInt8.toNat_inj.1 (Int.ofNat_inj.1 h))
    by_cases a2 : x = 92
    · rw [if_pos a2] at hR2
      subst a2
      by_cases hk2 : k + 1 < s.size
      case neg =>
        have hkz2 : ¬ ((k : Int) + 1 < (s.size : Int)) := by omega
        rw [if_pos (List.drop_of_length_le (by rw [← Lib.size_eq]; omega))] at hR2
        subst hR2
        go_wp2
        go_ret3
        exact ⟨rfl, hB⟩
      have hkz2 : (k : Int) + 1 < (s.size : Int) := by omega
      obtain ⟨y, hyk⟩ : ∃ y : UInt8, s[k + 1]'hk2 = y := ⟨_, rfl⟩
      have hyl : s.data.toList[k + 1]? = some y := by rw [← hyk]; exact Lib.data_getElem? s (k + 1) hk2
      have hdrop2 : s.data.toList.drop (k + 1) = y :: s.data.toList.drop (k + 2) := by
        have hlt := (List.getElem?_eq_some_iff.1 hyl).1
        rw [List.drop_eq_getElem_cons hlt, (List.getElem?_eq_some_iff.1 hyl).2]
      rw [hdrop2, if_neg (List.cons_ne_nil _ _)] at hR2
      simp only [List.headD_cons, List.drop_succ_cons, List.drop_zero] at hR2
      cases hp : plnB y with
      | false =>
        rw [hp, if_neg (by simp)] at hR2
        subst hR2
        go_wp2_with (go_at_call 213; refine (plain_any y _).mono ?_; rintro e w' ⟨rfl, rfl⟩)
        go_ret3
        exact ⟨rfl, hB⟩
      | true =>
        rw [hp, if_pos rfl] at hR2
        cases gk with
        | zero => omega
        | succ g =>
        go_wp2_with (first
          | (go_at_call 213; refine (plain_any y _).mono ?_; rintro e w' ⟨rfl, rfl⟩)
          | (go_at_call 188; refine (Any.Builder_WriteByte Tryz.l167 Tryz.bldX w.heap.size w.heap.size (Lib.byteCells b) y.toNat _ hI (by rw [Lib.byteCells_length]; omega) hBs).mono ?_))
        rintro e W1 ⟨rfl, h1, b1⟩
        rw [byteCells_snoc] at h1
        go_wp2
        go_roundg g
        case rel => exact ⟨k + 2, b ++ [y], by first | rfl | (congr 1; omega), by omega, by omega, by omega, by simp; omega, .inr h1, hB.trans b1, hR2⟩
        case measure => omega
    · rw [if_neg a2] at hR2
      have n2 : ¬ ((x.toNat : Int) = 92) := fun h => a2 (UInt8.toNat_inj.1 (Int.ofNat_inj.1 h))
      cases hp : plnB x with
      | false =>
        rw [hp, if_neg (by simp)] at hR2
        subst hR2
        go_wp2_with (go_at_call 213; refine (plain_any x _).mono ?_; rintro e w' ⟨rfl, rfl⟩)
        go_ret3
        exact ⟨rfl, hB⟩
      | true =>
        rw [hp, if_pos rfl] at hR2
        cases gk with
        | zero => omega
        | succ g =>
        go_wp2_with (first
          | (go_at_call 213; refine (plain_any x _).mono ?_; rintro e w' ⟨rfl, rfl⟩)
          | (go_at_call 188; refine (Any.Builder_WriteByte Tryz.l167 Tryz.bldX w.heap.size w.heap.size (Lib.byteCells b) x.toNat _ hI (by rw [Lib.byteCells_length]; omega) hBs).mono ?_))
        rintro e W1 ⟨rfl, h1, b1⟩
        rw [byteCells_snoc] at h1
        go_wp2
        go_roundg g
        case rel => exact ⟨k + 1, b ++ [x], by first | rfl | (congr 1; omega), by omega, by omega, by omega, by simp; omega, .inr h1, hB.trans b1, hR2⟩
        case measure => omega

theorem unquote101 (l : List UInt8) (hl : l.length ≤ 1000000) : PureC Tryz.prog 161 [.str l] (.tp [.str (unqB l).1, .int (unqB l).2.1, .int (unqB l).2.2]) := by
  by_cases h : l.head? = some 34
  · cases l with
    | nil => simp at h
    | cons a m =>
      simp at h
      subst h
      refine ⟨⟨_, Tryz.func161, by kernel_rfl, by kernel_rfl⟩, fun M w vs hH hr => ?_⟩
      cases hr with
      | cons h hs =>
      cases hs
      cases h
      have key := unquote_any ⟨((34 : UInt8) :: m).toArray⟩ w (by simpa [ByteArray.size] using hl) (by simp [ByteArray.size]) (by rfl)
      simp only [List.toList_toArray, List.drop_succ_cons, List.drop_zero] at key
      have e : unqB ((34 : UInt8) :: m) = unqG [] 1 m := by simp [unqB]
      rw [e]
      refine key.mono fun e w' ⟨h1, h2⟩ => ?_
      exact ⟨_, M, h1, Rep.tup (vs := [_, _, _]) (.cons (.sc _ rfl) (.cons (.sc _ rfl) (.cons (.sc _ rfl) .nil))), holds_below hH h2, Mem.le_refl _, fun _ _ => rfl, h2⟩
  · have e : unqB l = unqE := by
      cases l with
      | nil => rfl
      | cons a m => simp only [unqB]; rw [if_neg (by intro e; apply h; rw [e]; rfl)]
    rw [e]
    refine pure_of_aw (ys := [_, _, _]) [] [] [] mixed Tryz.func161 rfl (by kernel_rfl) (by kernel_rfl) (by simp [Tryz.ntmps161]) rfl ?_
    simp
    refine pcall_of (prefix117 l 34) (by simp) ?_
    simp [h, unqE, Tryz.results161]
/-- what a directive is read as: its name, its argument, whether it has one; whether it says anything -/
def readB (l : List UInt8) : List UInt8 × List UInt8 × Bool × Bool :=
  let c := cutB l 61
  if tkB c.1 = false then (lowB c.1, c.2.1, c.2.2, false) else
  if c.2.2 = false ∨ tkB c.2.1 = true then (lowB c.1, c.2.1, c.2.2, true) else
  let u := unqB c.2.1
  (lowB c.1, u.1, c.2.2, decide (u.2.2 = 0) && (u.2.1 == (c.2.1.length : Int)))
theorem cutB_len (l : List UInt8) (c : UInt8) : (cutB l c).1.length ≤ l.length ∧ (cutB l c).2.1.length ≤ l.length := by
  unfold cutB; split
  · simp
  · simp; omega
set_option maxHeartbeats 2000000 in
set_option maxRecDepth 100000 in
theorem read64 (l : List UInt8) (hl : l.length ≤ 1000000) : PureC Tryz.prog 125 [.str l] (.tp [.agg false [.str (readB l).1, .str (readB l).2.1, .bool (readB l).2.2.1], .bool (readB l).2.2.2]) := by
  refine pure_of_aw (ys := [_, _]) [] [(9, [(0, .r 1), (9, .s 2 [1])])] [(1, 1), (2, 0)] mixed Tryz.func125 rfl (by kernel_rfl) (by kernel_rfl) (by simp [Tryz.ntmps125]) rfl ?_
  have hc := cutB_len l 61
  have hcut := cut100 l 61 (by omega)
  unfold readB
  generalize cutB l 61 = c at *
  obtain ⟨n, a, has⟩ := c
  simp only at hc hcut ⊢
  simp
  refine pcall_of hcut (by simp) ?_
  simp
  refine pcall_of (lower76 n (by omega)) (by simp) ?_
  simp
  refine pcall_of (token52 n (by omega)) (by simp) ?_
  rw [show (decide (n ≠ []) && n.all tokB) = tkB n from rfl]
  cases h1 : tkB n with
  | false => simp [Tryz.results125]
  | true =>
  cases has with
  | false => simp [Tryz.results125]
  | true =>
  simp
  refine pcall_of (token52 a (by omega)) (by simp) ?_
  rw [show (decide (a ≠ []) && a.all tokB) = tkB a from rfl]
  cases h2 : tkB a with
  | true => simp [Tryz.results125]
  | false =>
  simp
  refine pcall_of (unquote101 a (by omega)) (by simp) ?_
  generalize unqB a = u at *
  obtain ⟨t, k, e⟩ := u
  simp only
  by_cases he : e = 0
  · subst he
    simp [Tryz.results125]
  · have d : (e == 0) = false := by simpa using he
    simp [he, d, Tryz.results125]
end Go.Av

/-! part Z59 -/
namespace Go.Av
open Go.Proofs
set_option maxRecDepth 100000


def MD : Nat := 2147483647
/-- a directive's number -/
def numD (arg : List UInt8) (has : Bool) (without : Int) : Int := if has = false then without else if (numB MD arg).2 = 12 then 2147483647 else (numB MD arg).1
set_option maxHeartbeats 1000000 in
theorem number67 (n a : List UInt8) (has : Bool) (wo : Int) (hl : a.length ≤ 1000000) : PureC Tryz.prog 128 [.agg false [.str n, .str a, .bool has], .int wo] (.int (numD a has wo)) := by
  refine pure_of_aw (ys := [_]) [] [] [] mixed Tryz.func128 rfl (by kernel_rfl) (by kernel_rfl) (by simp [Tryz.ntmps128]) rfl ?_
  have hn := number60 a MD (by omega) (by decide) (by decide)
  have hm : ((MD : Nat) : Int) = 2147483647 := rfl
  rw [hm] at hn
  unfold numD
  generalize numB MD a = q at *
  obtain ⟨v, e⟩ := q
  simp only at hn ⊢
  cases has with
  | false => simp [Tryz.results128]
  | true =>
    simp
    refine pcall_of hn (by simp) ?_
    by_cases c : e = 12
    · subst c; simp [Tryz.results128]
    · have d : (e == 12) = false := by simpa using c
      simp [c, d, Tryz.results128]
def nm0 : List UInt8 := [110, 111, 45, 115, 116, 111, 114, 101]
def nm1 : List UInt8 := [110, 111, 45, 99, 97, 99, 104, 101]
def nm2 : List UInt8 := [112, 117, 98, 108, 105, 99]
def nm3 : List UInt8 := [112, 114, 105, 118, 97, 116, 101]
def nm4 : List UInt8 := [109, 117, 115, 116, 45, 114, 101, 118, 97, 108, 105, 100, 97, 116, 101]
def nm5 : List UInt8 := [112, 114, 111, 120, 121, 45, 114, 101, 118, 97, 108, 105, 100, 97, 116, 101]
def nm6 : List UInt8 := [111, 110, 108, 121, 45, 105, 102, 45, 99, 97, 99, 104, 101, 100]
def nm7 : List UInt8 := [109, 97, 120, 45, 97, 103, 101]
def nm8 : List UInt8 := [115, 45, 109, 97, 120, 97, 103, 101]
def nm9 : List UInt8 := [109, 97, 120, 45, 115, 116, 97, 108, 101]
def nm10 : List UInt8 := [109, 105, 110, 45, 102, 114, 101, 115, 104]
def flagI (n : List UInt8) : Option Nat := if n = nm0 then some 0 else if n = nm1 then some 1 else if n = nm2 then some 2 else if n = nm3 then some 3 else if n = nm4 then some 4 else if n = nm5 then some 5 else if n = nm6 then some 6 else none
def cntI (n : List UInt8) : Option Nat := if n = nm7 then some 0 else if n = nm8 then some 1 else if n = nm9 then some 2 else if n = nm10 then some 3 else none
def ptrO (id : Nat) (b : Nat) : Option Nat → AV
  | some k => .obj id (b + k)
  | none => .p (.sc (.pointer none))
set_option maxHeartbeats 1000000 in
theorem flag65 (id nx : Nat) (h : id < nx) (n : List UInt8) (cs : List PC) : GenC Tryz.prog 126 [.obj id 0, .p (.str n)] ⟨[(id, ⟨42, 11, cs.map AV.p⟩)], [], nx⟩ (ptrO id 0 (flagI n)) ⟨[(id, ⟨42, 11, cs.map AV.p⟩)], [], nx⟩ := by
  refine gen_of_aw (rs := [_]) [] [] [] mixed Tryz.func126 rfl (by kernel_rfl) (by kernel_rfl) (by simp [Tryz.ntmps126]) rfl ?_
  unfold flagI
  have e : ∀ m : List UInt8, n ≠ m → (n == m) = false := fun m hm => by simpa using hm
  by_cases h0 : n = nm0
  · subst h0; simp [nm0, ptrO, Tryz.results126]; exact ⟨[], by simp [h]⟩
  have e0 := e _ h0; unfold nm0 at e0
  by_cases h1 : n = nm1
  · subst h1; simp [nm0, nm1, ptrO, Tryz.results126]; exact ⟨[], by simp [h]⟩
  have e1 := e _ h1; unfold nm1 at e1
  by_cases h2 : n = nm2
  · subst h2; simp [nm0, nm1, nm2, ptrO, Tryz.results126]; exact ⟨[], by simp [h]⟩
  have e2 := e _ h2; unfold nm2 at e2
  by_cases h3 : n = nm3
  · subst h3; simp [nm0, nm1, nm2, nm3, ptrO, Tryz.results126]; exact ⟨[], by simp [h]⟩
  have e3 := e _ h3; unfold nm3 at e3
  by_cases h4 : n = nm4
  · subst h4; simp [nm0, nm1, nm2, nm3, nm4, ptrO, Tryz.results126]; exact ⟨[], by simp [h]⟩
  have e4 := e _ h4; unfold nm4 at e4
  by_cases h5 : n = nm5
  · subst h5; simp [nm0, nm1, nm2, nm3, nm4, nm5, ptrO, Tryz.results126]; exact ⟨[], by simp [h]⟩
  have e5 := e _ h5; unfold nm5 at e5
  by_cases h6 : n = nm6
  · subst h6; simp [nm0, nm1, nm2, nm3, nm4, nm5, nm6, ptrO, Tryz.results126]; exact ⟨[], by simp [h]⟩
  have e6 := e _ h6; unfold nm6 at e6
  simp [h0, h1, h2, h3, h4, h5, h6, e0, e1, e2, e3, e4, e5, e6, ptrO, Tryz.results126]
  exact ⟨[], by simp [h]⟩
set_option maxHeartbeats 1000000 in
theorem count66 (id nx : Nat) (h : id < nx) (n : List UInt8) (cs : List PC) : GenC Tryz.prog 127 [.obj id 0, .p (.str n)] ⟨[(id, ⟨42, 11, cs.map AV.p⟩)], [], nx⟩ (ptrO id 7 (cntI n)) ⟨[(id, ⟨42, 11, cs.map AV.p⟩)], [], nx⟩ := by
  refine gen_of_aw (rs := [_]) [] [] [] mixed Tryz.func127 rfl (by kernel_rfl) (by kernel_rfl) (by simp [Tryz.ntmps127]) rfl ?_
  unfold cntI
  have e : ∀ m : List UInt8, n ≠ m → (n == m) = false := fun m hm => by simpa using hm
  by_cases h0 : n = nm7
  · subst h0; simp [nm7, ptrO, Tryz.results127]; exact ⟨[], by simp [h]⟩
  have e0 := e _ h0; unfold nm7 at e0
  by_cases h1 : n = nm8
  · subst h1; simp [nm7, nm8, ptrO, Tryz.results127]; exact ⟨[], by simp [h]⟩
  have e1 := e _ h1; unfold nm8 at e1
  by_cases h2 : n = nm9
  · subst h2; simp [nm7, nm8, nm9, ptrO, Tryz.results127]; exact ⟨[], by simp [h]⟩
  have e2 := e _ h2; unfold nm9 at e2
  by_cases h3 : n = nm10
  · subst h3; simp [nm7, nm8, nm9, nm10, ptrO, Tryz.results127]; exact ⟨[], by simp [h]⟩
  have e3 := e _ h3; unfold nm10 at e3
  simp [h0, h1, h2, h3, e0, e1, e2, e3, ptrO, Tryz.results127]
  exact ⟨[], by simp [h]⟩
/-- what directives say: seven flags, four numbers -/
abbrev Ctl := List Bool × List Int
def ctl0 : Ctl := (List.replicate 7 false, List.replicate 4 (-1))
def ctlL (c : Ctl) : List PC := c.1.map PC.bool ++ c.2.map PC.int
theorem none28 : PureC Tryz.prog 124 [] (.agg false (ctlL ctl0)) := by
  refine pure_of_aw (ys := [_]) [] [] [] mixed Tryz.func124 rfl (by kernel_rfl) (by kernel_rfl) (by simp [Tryz.ntmps124]) rfl ?_
  simp [Tryz.results124, ctlL, ctl0]

theorem unqG_len : ∀ (n : Nat) (l b : List UInt8) (k : Nat), l.length ≤ n → (unqG b k l).1.length ≤ b.length + l.length := by
  intro n
  induction n with
  | zero => intro l b k h; obtain rfl : l = [] := List.length_eq_zero_iff.1 (by omega); simp [unqG, unqE]
  | succ n ih =>
    intro l b k h
    cases l with
    | nil => simp [unqG, unqE]
    | cons c l =>
      rw [unqG_cons]
      simp only [List.length_cons] at h ⊢
      split
      · simp
      · split
        · split
          · simp [unqE]
          · split
            · refine Nat.le_trans (ih _ _ _ (by simp; omega)) (by simp; rename_i h0 _; cases l with | nil => simp at h0 | cons => simp; omega)
            · simp [unqE]
        · split
          · exact Nat.le_trans (ih _ _ _ (by omega)) (by simp; omega)
          · simp [unqE]
theorem unqB_len (l : List UInt8) : (unqB l).1.length ≤ l.length := by
  cases l with
  | nil => simp [unqB, unqE]
  | cons c l =>
    simp only [unqB]
    split
    · exact Nat.le_trans (unqG_len _ _ _ _ (Nat.le_refl _)) (by simp)
    · simp [unqE]
/-- one directive more -/
def stepC (c : Ctl) (p : List UInt8) : Ctl :=
  let d := readB p
  if d.2.2.2 = false then c else
  match flagI d.1 with
  | some k => (c.1.set k true, c.2)
  | none => match cntI d.1 with
    | some k => if c.2.getD k 0 < 0 then (c.1, c.2.set k (numD d.2.1 d.2.2.1 (if d.1 = nm9 then 2147483647 else 0))) else c
    | none => c
def parseB (vs : List (List UInt8)) : Ctl := (splitB vs).foldl stepC ctl0
theorem flagI_lt {n : List UInt8} {k : Nat} (h : flagI n = some k) : k < 7 := by
  unfold flagI at h
  repeat' split at h
  all_goals simp at h
  all_goals omega
theorem cntI_lt {n : List UInt8} {k : Nat} (h : cntI n = some k) : k < 4 := by
  unfold cntI at h
  repeat' split at h
  all_goals simp at h
  all_goals omega
theorem readB_len (l : List UInt8) : (readB l).2.1.length ≤ l.length := by
  have hc := cutB_len l 61
  unfold readB
  simp only
  split
  · exact hc.2
  · split
    · exact hc.2
    · exact Nat.le_trans (unqB_len _) hc.2
theorem ctlL_set0 {c : Ctl} (h : c.1.length = 7) {k : Nat} (hk : k < 7) (b : Bool) : (ctlL c).set k (.bool b) = ctlL (c.1.set k b, c.2) := by
  simp only [ctlL]
  rw [List.set_append_left _ _ (by simp; omega)]
  simp [List.map_set]
theorem ctlL_set1 {c : Ctl} (h : c.1.length = 7) {k : Nat} (v : Int) : (ctlL c).set (7 + k) (.int v) = ctlL (c.1, c.2.set k v) := by
  simp only [ctlL]
  rw [List.set_append_right _ _ (by simp; omega)]
  simp [List.map_set, h]
theorem piece_len {vs : List (List UInt8)} (hl : ∀ v ∈ vs, v.length ≤ 1000000) : ∀ p ∈ splitB vs, p.length ≤ 1000000 := by
  have tl : ∀ l : List UInt8, (trimB l).length ≤ l.length := by
    intro l; exact Nat.le_trans (trimL_le _) (trimR_le _)
  have key : ∀ (n : Nat) (l : List UInt8), l.length ≤ n → ∀ p ∈ spl1 l, p.length ≤ l.length := by
    intro n
    induction n with
    | zero => intro l h p hp; obtain rfl : l = [] := List.length_eq_zero_iff.1 (by omega); simp [spl1_nil] at hp
    | succ n ih =>
      intro l h p hp
      by_cases e : l = []
      · subst e; simp [spl1_nil] at hp
      · rw [spl1_eq e] at hp
        rcases List.mem_append.1 hp with hp | hp
        · unfold pieceB at hp
          split at hp
          · simp at hp
          · simp at hp; subst hp; exact Nat.le_trans (tl _) (by rw [List.length_take]; omega)
        · have h0 : 0 < l.length := List.length_pos_iff.2 e
          exact Nat.le_trans (ih _ (by simp; omega) p hp) (by simp)
  intro p hp
  unfold splitB at hp
  obtain ⟨v, hv, hp⟩ := List.mem_flatMap.1 hp
  exact Nat.le_trans (key _ v (Nat.le_refl _) p hp) (hl v hv)
theorem flag_cnt {n : List UInt8} {k : Nat} (h : flagI n = some k) : cntI n = none := by
  unfold flagI at h
  repeat' split at h
  all_goals first | (rename_i h0; subst h0; rfl) | (simp at h)
theorem set_map {l : List PC} {j : Nat} (h : j < l.length) (v : PC) : (l.map AV.p).take j ++ AV.p v :: (l.map AV.p).drop (j + 1) = (l.set j v).map AV.p := by
  rw [List.map_set, List.set_eq_take_append_cons_drop, if_pos (by simpa using h)]
abbrev zc : List AV := [.p (.bool false), .p (.bool false), .p (.bool false), .p (.bool false), .p (.bool false), .p (.bool false), .p (.bool false), .p (.int 0), .p (.int 0), .p (.int 0), .p (.int 0)]
set_option maxHeartbeats 4000000 in
set_option maxRecDepth 100000 in
theorem parse26 (vs : List (List UInt8)) (hv : vs.length ≤ 1000000) (ht : totB vs ≤ 1000000) (hl : ∀ v ∈ vs, v.length ≤ 1000000) : PureC Tryz.prog 83 [.sl (vs.map PC.str)] (.agg false (ctlL (parseB vs))) := by
  refine pure_of_aw (ys := [_]) [] [] [] mixed Tryz.func83 rfl (by kernel_rfl) (by kernel_rfl) (by simp [Tryz.ntmps83]) rfl ?_
  have hR := splitB_len vs
  have hp := piece_len hl
  have hs := split63 vs hv ht hl
  unfold parseB
  generalize splitB vs = ps at *
  have hl0 : (ctlL ctl0).length = 11 := rfl
  simp
  refine pcall_of none28 rfl ?_
  simp [hl0]
  refine pcall_of hs (by simp) ?_
  simp
  obtain ⟨R, hRe⟩ : ∃ R, R = ps.foldl stepC ctl0 := ⟨_, rfl⟩
  rw [← hRe]
  refine aw_loop (fun y : Nat × Ctl => y.1 ≤ ps.length ∧ y.2.1.length = 7 ∧ y.2.2.length = 4 ∧ R = (ps.drop y.1).foldl stepC y.2) (fun y => [(0, .p (.sl (vs.map PC.str))), (2, .obj 0 0), (3, .obj 1 0), (13, .p (.sl (ps.map PC.str))), (14, .p (.int ps.length)), (15, .p (.int y.1))])
    (fun y => ⟨[(1, ⟨42, 11, (ctlL y.2).map AV.p⟩), (0, ⟨42, 11, zc⟩)], [], 2⟩) (fun y => ps.length - y.1) (0, ctl0) ⟨by simp, rfl, rfl, by simpa using hRe⟩ _ (AS.le_refl _ _) (leN_id (by simp)) ?_
  rintro ⟨k, c⟩ ⟨h1, h7, h4, h2⟩
  simp only at h1 h7 h4 h2
  have hcl : (ctlL c).length = 11 := by simp [ctlL, h7, h4]
  by_cases ck : k < ps.length
  case neg =>
    obtain rfl : k = ps.length := by omega
    rw [List.drop_length] at h2
    simp at h2
    subst h2
    have ht : ((ctlL R).map AV.p).take 11 = (ctlL R).map AV.p := List.take_of_length_le (by simp [hcl])
    have hg : toG (PC.agg false (ctlL R)) (pcG false (some (ctlL R))) := by simp [pcG, toG]
    simp [Tryz.results83, hcl, ht, hg]
  rw [List.drop_eq_getElem_cons ck, List.foldl_cons] at h2
  have hpl := hp ps[k] (List.getElem_mem ck)
  simp [ck]
  generalize ps[k] = p at *
  have hrd := read64 p hpl
  have har := readB_len p
  unfold stepC at h2
  generalize readB p = d at *
  obtain ⟨n, a, has, ok⟩ := d
  simp only at hrd har h2
  refine pcall_of hrd (by simp) ?_
  cases ok with
  | false =>
    simp
    simp only [if_true] at h2
    refine ⟨k + 1, c.1, c.2, ⟨by omega, h7, h4, h2⟩, by omega, leN_id ?_⟩
    simp [wrap64_id (n := (k : Int) + 1) (by omega) (by omega)]
  | true =>
  simp only [Bool.true_eq_false, if_false] at h2
  simp
  refine gcall_of0 (flag65 1 3 (by omega) n (ctlL c)) (by simp) (by simp [sub1]) trivial rfl ?_
  obtain ⟨x, hx⟩ : ∃ x, x = flagI n := ⟨_, rfl⟩
  rw [← hx] at h2 ⊢
  cases x with
  | some j =>
    have hj := flagI_lt hx.symm
    simp only at h2
    have e1 := set_map (l := ctlL c) (j := j) (by omega) (PC.sc (Value.bool true))
    rw [show (ctlL c).set j (PC.sc (Value.bool true)) = ctlL (c.1.set j true, c.2) from ctlL_set0 h7 hj true] at e1
    simp [ptrO, hcl, e1]
    refine ⟨by omega, ?_⟩
    refine gcall_of0 (count66 1 3 (by omega) n (ctlL (c.1.set j true, c.2))) (by simp) (by simp [sub1]) trivial rfl ?_
    rw [flag_cnt hx.symm]
    simp [ptrO]
    refine ⟨k + 1, c.1.set j true, c.2, ⟨by omega, by simpa using h7, h4, h2⟩, by omega, leN_id ?_⟩
    simp [wrap64_id (n := (k : Int) + 1) (by omega) (by omega)]
  | none =>
  simp only at h2
  simp [ptrO, hcl]
  refine gcall_of0 (count66 1 3 (by omega) n (ctlL c)) (by simp) (by simp [sub1]) trivial rfl ?_
  obtain ⟨y, hy⟩ : ∃ y, y = cntI n := ⟨_, rfl⟩
  rw [← hy] at h2 ⊢
  cases y with
  | none =>
    simp only at h2
    simp [ptrO, hcl]
    refine ⟨k + 1, c.1, c.2, ⟨by omega, h7, h4, h2⟩, by omega, leN_id ?_⟩
    simp [wrap64_id (n := (k : Int) + 1) (by omega) (by omega)]
  | some j =>
    have hj := cntI_lt hy.symm
    simp only at h2
    have hj4 : j < c.2.length := by omega
    have e0 : (ctlL c)[7 + j]? = some (PC.int c.2[j]) := by
      simp only [ctlL]
      rw [List.getElem?_append_right (by simp; omega)]
      simp [h7, hj4]
    have e2 : c.2.getD j 0 = c.2[j] := by simp [List.getD, hj4]
    rw [e2] at h2
    by_cases cn : c.2[j] < 0
    case neg =>
      rw [if_neg cn] at h2
      have d : decide (c.2[j] < 0) = false := by simpa using cn
      simp [ptrO, hcl, e0, cn]
      refine ⟨k + 1, c.1, c.2, ⟨by omega, h7, h4, h2⟩, by omega, leN_id ?_⟩
      simp [wrap64_id (n := (k : Int) + 1) (by omega) (by omega)]
    rw [if_pos cn] at h2
    simp [ptrO, hcl, e0, cn]
    by_cases c9 : n = nm9
    · rw [if_pos c9] at h2
      have d9 : (n == [109, 97, 120, 45, 115, 116, 97, 108, 101]) = true := by rw [c9]; rfl
      simp [d9]
      refine pcall_of (number67 n a has 2147483647 (by omega)) (by simp) ?_
      generalize numD a has 2147483647 = v at *
      have e1 := set_map (l := ctlL c) (j := 7 + j) (by omega) (PC.int v)
      rw [ctlL_set1 h7 v] at e1
      simp [hcl, e1]
      refine ⟨by omega, ?_⟩
      refine ⟨k + 1, c.1, c.2.set j v, ⟨by omega, h7, by simpa using h4, h2⟩, by omega, leN_id ?_⟩
      simp [wrap64_id (n := (k : Int) + 1) (by omega) (by omega)]
    · rw [if_neg c9] at h2
      have d9 : (n == [109, 97, 120, 45, 115, 116, 97, 108, 101]) = false := by rw [beq_eq_false_iff_ne]; exact c9
      simp [d9]
      refine pcall_of (number67 n a has 0 (by omega)) (by simp) ?_
      generalize numD a has 0 = v at *
      have e1 := set_map (l := ctlL c) (j := 7 + j) (by omega) (PC.int v)
      rw [ctlL_set1 h7 v] at e1
      simp [hcl, e1]
      refine ⟨by omega, ?_⟩
      refine ⟨k + 1, c.1, c.2.set j v, ⟨by omega, h7, by simpa using h4, h2⟩, by omega, leN_id ?_⟩
      simp [wrap64_id (n := (k : Int) + 1) (by omega) (by omega)]
end Go.Av
