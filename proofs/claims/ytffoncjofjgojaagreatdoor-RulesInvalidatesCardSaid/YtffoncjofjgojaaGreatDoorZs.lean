/- URIs: hosts, seats, places, Parse, Print, Right, in the code and in the document. -/
import Derived.Test.YtffoncjofjgojaaGreatDoorZr
set_option linter.all false
/-! part Z177 -/
namespace Go.Av
open Go.Proofs
set_option maxRecDepth 100000
def cutsB (l : List UInt8) (c : UInt8) : List UInt8 := if sfxB l c = true then l.dropLast else l
theorem cuts253 (l : List UInt8) (c : UInt8) (hl : l.length ≤ 1000000) : PureC Tryz.prog 253 [.str l, .str [c]] (.tp [.str (cutsB l c), .bool (sfxB l c)]) := by
  refine pure_of_aw (ys := [_, _]) [] [] [] mixed Tryz.func253 rfl (by kernel_rfl) (by kernel_rfl) (by simp [Tryz.ntmps253]) rfl ?_
  have h := hasS241 l c hl
  unfold cutsB
  simp
  refine pcall_of h (by simp) ?_
  cases hs : sfxB l c with
  | false => simp [Tryz.results253]
  | true =>
    have hne : l ≠ [] := by rintro rfl; simp [sfxB] at hs
    have hp : 0 < l.length := List.length_pos_iff.2 hne
    have w : IntKind.i64.wrap ((l.length : Int) - 1) = ((l.length - 1 : Nat) : Int) := by rw [wrap64_id (by omega) (by omega)]; omega
    simp [w, List.dropLast_eq_take, Tryz.results253]
theorem cuts229 (l : List UInt8) (c : UInt8) (hl : l.length ≤ 1000000) : PureC Tryz.prog 229 [.str l, .str [c]] (.tp [.str (cutsB l c), .bool (sfxB l c)]) := by
  refine pure_of_aw (ys := [_, _]) [] [] [] mixed Tryz.func229 rfl (by kernel_rfl) (by kernel_rfl) (by simp [Tryz.ntmps229]) rfl ?_
  simp
  refine pcall_of (cuts253 l c hl) (by simp) ?_
  simp [Tryz.results229]
/-- may an octet be within brackets? -/
def inB (c : UInt8) : Bool := hxB c || decide (c = 58) || decide (c = 46)
/-- is it a host? -/
def hostB (s : List UInt8) : Bool := if s.head? = some 91 then sfxB (s.drop 1) 93 && !decide (cutsB (s.drop 1) 93 = []) && (cutsB (s.drop 1) 93).all inB else onlyU s [freeU, subsU]
theorem ne_u8 {a b : UInt8} (h : a ≠ b) : ((a.toNat : Int) == (b.toNat : Int)) = false := by
  simpa using fun e => h (UInt8.toNat_inj.1 (Int.ofNat_inj.1 e))
set_option maxHeartbeats 4000000 in
theorem named185g (l : List UInt8) (hl : l.length ≤ 1000000) : PureC Tryz.prog 185 [.str l] (.bool (hostB l)) := by
  by_cases h : l.head? = some 91
  case neg =>
    have := named185 l hl h
    unfold hostB; rw [if_neg h]; exact this
  refine pure_of_aw (ys := [_]) [] [] [] mixed Tryz.func185 rfl (by kernel_rfl) (by kernel_rfl) (by simp [Tryz.ntmps185]) rfl ?_
  have h1 := cutp227 l 91
  rw [if_pos h, decide_eq_true h] at h1
  have hdl : (l.drop 1).length ≤ 1000000 := by simp; omega
  have h2 := cuts229 (l.drop 1) 93 hdl
  obtain ⟨R, hR⟩ : ∃ R, R = hostB l := ⟨_, rfl⟩
  rw [← hR]
  unfold hostB at hR
  rw [if_pos h] at hR
  have hil : (cutsB (l.drop 1) 93).length ≤ 1000000 := by
    unfold cutsB; split
    · simp; omega
    · exact hdl
  generalize sfxB (l.drop 1) 93 = ok at *
  generalize cutsB (l.drop 1) 93 = u at *
  simp
  refine pcall_of h1 (by simp) ?_
  simp
  refine pcall_of h2 (by simp) ?_
  simp
  refine aw_loop0 (fun k : Nat => k ≤ u.length ∧ R = (ok && !decide (u = []) && (u.drop k).all inB)) (fun k => [(3, .p (.str u)), (4, .p (.bool ok)), (24, .p (.int u.length)), (25, .p (.int k))]) (fun k => u.length - k) 0 ⟨by omega, by simpa using hR⟩ (leN_id (by simp)) ?_
  rintro k ⟨g1, g2⟩
  by_cases c : k < u.length
  · rw [List.drop_eq_getElem_cons c, List.all_cons] at g2
    have wk : IntKind.i64.wrap ((k : Int) + 1) = ((k + 1 : Nat) : Int) := by rw [wrap64_id (by omega) (by omega)]; rfl
    have hsl : (u.drop k).take 1 = [u[k]] := by rw [List.drop_eq_getElem_cons c]; rfl
    have hk1 : k + 1 ≤ u.length := by omega
    have hsub : k + 1 - k = 1 := by omega
    have hex : List.drop k (List.take (k + 1) u) = [u[k]] := by
      rw [List.drop_take, hsub, hsl]
    simp [c, wk, hk1, hsl, hsub, hex]
    refine ⟨by omega, ?_⟩
    refine pcall_of (hex_one u[k]) (by simp) ?_
    cases hx : hxB u[k] with
    | true =>
      have hi : inB u[k] = true := by simp [inB, hx]
      rw [hi, Bool.true_and] at g2
      simp [wk]
      exact ⟨k + 1, ⟨by omega, g2⟩, by omega, leN_id (by simp)⟩
    | false =>
      by_cases e1 : u[k] = 58
      · have hi : inB u[k] = true := by rw [e1]; rfl
        rw [hi, Bool.true_and] at g2
        have e1' : ((u[k].toNat : Int) != 58) = false := by rw [e1]; rfl
        simp [c, e1', wk]
        exact ⟨k + 1, ⟨by omega, g2⟩, by omega, leN_id (by simp)⟩
      · have e1' : ((u[k].toNat : Int) != 58) = true := by have := ne_u8 e1; simpa using this
        by_cases e2 : u[k] = 46
        · have hi : inB u[k] = true := by rw [e2]; rfl
          rw [hi, Bool.true_and] at g2
          have e2' : ((u[k].toNat : Int) != 46) = false := by rw [e2]; rfl
          simp [c, e1', e2', wk]
          exact ⟨k + 1, ⟨by omega, g2⟩, by omega, leN_id (by simp)⟩
        · have e2' : ((u[k].toNat : Int) != 46) = true := by have := ne_u8 e2; simpa using this
          have hi : inB u[k] = false := by simp [inB, hx, e1, e2]
          rw [hi, Bool.false_and, Bool.and_false] at g2
          simp [c, e1', e2', g2, Tryz.results185]
  · obtain rfl : k = u.length := by omega
    rw [List.drop_length] at g2
    simp only [List.all_nil, Bool.and_true] at g2
    cases ok with
    | false => simp at g2; simp [g2, Tryz.results185]
    | true =>
      by_cases hu : u = []
      · subst hu; simp at g2; simp [g2, Tryz.results185]
      · have hu' : (u != []) = true := by simpa using hu
        simp [hu] at g2
        simp [hu', hu, g2, Tryz.results185]
theorem okH_eq (c : UInt8) : ofU c [freeU, subsU] = (frU c || decide (c ∈ subsU)) :=
  u8_all (p := fun c => ofU c [freeU, subsU] = (frU c || decide (c ∈ subsU))) (by decide +kernel) c
set_option maxHeartbeats 4000000 in
theorem rhost195 (l : List UInt8) (hl : l.length ≤ 1000000) : PureC Tryz.prog 195 [.str l] (.bool (hostB l)) := by
  refine pure_of_aw (ys := [_]) [] [] [] mixed Tryz.func195 rfl (by kernel_rfl) (by kernel_rfl) (by simp [Tryz.ntmps195]) rfl ?_
  obtain ⟨R, hR⟩ : ∃ R, R = hostB l := ⟨_, rfl⟩
  rw [← hR]
  unfold hostB at hR
  by_cases h : l.head? = some 91
  · rw [if_pos h] at hR
    obtain ⟨t, rfl⟩ : ∃ t, l = 91 :: t := by
      cases l with
      | nil => simp at h
      | cons a t => simp at h; exact ⟨t, by rw [h]⟩
    have hd : ((91 : UInt8) :: t).drop 1 = t := rfl
    rw [hd] at hR
    rcases List.eq_nil_or_concat t with ht | ⟨u, x, ht⟩
    · subst ht
      have : R = false := by rw [hR]; rfl
      simp [this, Tryz.results195]
    · rw [List.concat_eq_append] at ht
      subst ht
      have hp : (0 : Int) < (u.length : Int) + 1 + 1 := by omega
      have hsf : sfxB (u ++ [x]) 93 = decide (x = 93) := by unfold sfxB; simp
      have hul : u.length + 2 ≤ 1000000 := by simp at hl; omega
      have hw : IntKind.i64.wrap ((u.length : Int) + 1 + 1 - 1) = (u.length : Int) + 1 := by rw [wrap64_id (by omega) (by omega)]; omega
      have hw2 : IntKind.i64.wrap ((u.length : Int) + 1) = (u.length : Int) + 1 := wrap64_id (by omega) (by omega)
      have hnn : (0 : Int) ≤ (u.length : Int) + 1 := by omega
      rw [hsf] at hR
      by_cases hx : x = 93
      case neg =>
        have hx' : ((x.toNat : Int) != 93) = true := by have := ne_u8 hx; simpa using this
        have hRf : R = false := by rw [hR, decide_eq_false hx]; rfl
        by_cases hu : u.length + 1 + 1 < 3
        · have hu2 : ((u.length : Int) + 1 + 1) < 3 := by omega
          simp [hp, hu2, hRf, Tryz.results195]
        · have hu2 : ¬ ((u.length : Int) + 1 + 1) < 3 := by omega
          simp [hp, hu2, hw, hw2, hx', hRf, hnn, Tryz.results195]
      have hx' : ((x.toNat : Int) != 93) = false := by rw [hx]; rfl
      have hcu : cutsB (u ++ [x]) 93 = u := by unfold cutsB; rw [hsf, decide_eq_true hx]; simp
      rw [hcu, decide_eq_true hx] at hR
      by_cases hu : u = []
      · subst hu
        simp at hR
        simp [hR, Tryz.results195]
      have hu3 : ¬ ((u.length : Int) + 1 + 1) < 3 := by have := List.length_pos_iff.2 hu; omega
      rw [decide_eq_false hu] at hR
      simp only [Bool.not_false, Bool.and_true, Bool.true_and] at hR
      simp [hp, hu3, hw, hw2, hx', hnn]
      have hL : ∀ k (h : k < u.length), (91 :: (u ++ [x]))[k + 1]? = some u[k] := fun k h => by
        rw [List.getElem?_cons_succ, List.getElem?_append_left h, List.getElem?_eq_getElem h]
      have hLl : (91 :: (u ++ [x])).length = u.length + 2 := by simp
      generalize 91 :: (u ++ [x]) = L at *
      refine aw_loop0 (fun k : Nat => k ≤ u.length ∧ R = (u.drop k).all inB) (fun k => [(0, .p (.str L)), (3, .p (.int ((k + 1 : Nat) : Int)))]) (fun k => u.length - k) 0 ⟨by omega, by simpa using hR⟩ (leN_id (by simp)) ?_
      rintro k ⟨g1, g2⟩
      have hw4 : IntKind.i64.wrap ((L.length : Int) - 1) = (u.length : Int) + 1 := by rw [wrap64_id (by omega) (by omega)]; omega
      by_cases c : k < u.length
      · rw [List.drop_eq_getElem_cons c, List.all_cons] at g2
        have hLk := hL k c
        have hlt : k + 1 < L.length := by omega
        have hgk : L[k + 1] = u[k] := (List.getElem_eq_iff hlt).2 hLk
        have c2 : ((k : Int) + 1) < (u.length : Int) + 1 := by omega
        have c3 : (0 : Int) ≤ (k : Int) + 1 := by omega
        have c4 : ((k + 1 : Nat) : Int) < ((u.length + 1 : Nat) : Int) := by omega
        have wk : IntKind.i64.wrap ((k : Int) + 1 + 1) = ((k + 1 + 1 : Nat) : Int) := by rw [wrap64_id (by omega) (by omega)]; omega
        simp [c, hw4, hLk, hlt, hgk, c2, c3, c4]
        refine pcall_of (hexa238 u[k]) (by simp [u8P]) ?_
        rcases hx_cases u[k] with ⟨x1, x2⟩ | ⟨x1, x2⟩
        · have hi : inB u[k] = true := by simp [inB, x1]
          rw [hi, Bool.true_and] at g2
          have n1 : ((digN u[k] : Int) == 99) = false := by simp; omega
          simp [n1, wk]
          exact ⟨k + 1, ⟨by omega, g2⟩, by omega, leN_id (by simp)⟩
        · by_cases e1 : u[k] = 58
          · have hi : inB u[k] = true := by rw [e1]; rfl
            rw [hi, Bool.true_and] at g2
            have e1' : ((u[k].toNat : Int) != 58) = false := by rw [e1]; rfl
            simp [x2, hLk, hlt, hgk, c3, e1', wk]
            exact ⟨k + 1, ⟨by omega, g2⟩, by omega, leN_id (by simp)⟩
          · have e1' : ((u[k].toNat : Int) != 58) = true := by have := ne_u8 e1; simpa using this
            by_cases e2 : u[k] = 46
            · have hi : inB u[k] = true := by rw [e2]; rfl
              rw [hi, Bool.true_and] at g2
              have e2' : ((u[k].toNat : Int) != 46) = false := by rw [e2]; rfl
              simp [x2, hLk, hlt, hgk, c3, e1', e2', wk]
              exact ⟨k + 1, ⟨by omega, g2⟩, by omega, leN_id (by simp)⟩
            · have e2' : ((u[k].toNat : Int) != 46) = true := by have := ne_u8 e2; simpa using this
              have hi : inB u[k] = false := by simp [inB, x1, e1, e2]
              rw [hi, Bool.false_and] at g2
              simp [x2, hLk, hlt, hgk, c3, e1', e2', g2, Tryz.results195]
      · obtain rfl : k = u.length := by omega
        rw [List.drop_length] at g2
        simp at g2
        simp [hw4, g2, Tryz.results195]
  · rw [if_neg h] at hR
    unfold onlyU at hR
    have h0 : (decide ((0 : Int) < (l.length : Int)) = false) ∨ (decide ((0 : Int) < (l.length : Int)) = true ∧ ∃ a, l[0]? = some a ∧ a ≠ 91) := by
      cases l with
      | nil => left; rfl
      | cons a t => right; exact ⟨by simp, a, rfl, fun e => h (by rw [e]; rfl)⟩
    rcases h0 with h0 | ⟨h0, a, ha, ha2⟩
    · have hl0 : l = [] := by cases l with
        | nil => rfl
        | cons a t => simp at h0
      subst hl0
      simp at hR
      simp
      refine aw_loop0 (fun k : Nat => k = 0) (fun k => [(0, .p (.str [])), (4, .p (.int k))]) (fun k => k) 0 rfl (leN_id (by simp)) ?_
      rintro k rfl
      simp [hR, Tryz.results195]
    · have ha' : ((a.toNat : Int) == 91) = false := ne_u8 ha2
      have hl1 : 0 < l.length := by simpa using h0
      have hga : l[0] = a := (List.getElem_eq_iff hl1).2 ha
      have hne : ¬ l = [] := List.length_pos_iff.1 hl1
      rw [decide_eq_false hne] at hR
      simp only [Bool.not_false, Bool.and_true] at hR
      simp [h0, hl1, hga, ha']
      refine aw_loop0 (fun k : Nat => k ≤ l.length ∧ R = (l.drop k).all fun c => ofU c [freeU, subsU]) (fun k => [(0, .p (.str l)), (4, .p (.int k))]) (fun k => l.length - k) 0 ⟨by omega, by simpa using hR⟩ (leN_id (by simp)) ?_
      rintro k ⟨g1, g2⟩
      by_cases c : k < l.length
      · rw [List.drop_eq_getElem_cons c, List.all_cons] at g2
        have hok := okH_eq l[k]
        have wk : IntKind.i64.wrap ((k : Int) + 1) = ((k + 1 : Nat) : Int) := by rw [wrap64_id (by omega) (by omega)]; rfl
        simp [c]
        refine pcall_of (free239 l[k]) (by simp [u8P]) ?_
        cases hf : frU l[k] with
        | true =>
          rw [hf, Bool.true_or] at hok
          rw [hok, Bool.true_and] at g2
          simp [wk]
          exact ⟨k + 1, ⟨by omega, g2⟩, by omega, leN_id (by simp)⟩
        | false =>
          rw [hf, Bool.false_or] at hok
          simp [c]
          refine pcall_of (among240 l[k] subsU (by decide)) (by simp [u8P, subsU]) ?_
          by_cases hm : l[k] ∈ subsU
          · rw [decide_eq_true hm] at hok
            rw [hok, Bool.true_and] at g2
            simp [hm, wk]
            exact ⟨k + 1, ⟨by omega, g2⟩, by omega, leN_id (by simp)⟩
          · rw [decide_eq_false hm] at hok
            rw [hok, Bool.false_and] at g2
            simp [hm, g2, Tryz.results195]
      · obtain rfl : k = l.length := by omega
        rw [List.drop_length] at g2
        simp at g2
        have hl2 : (0 : Int) < (l.length : Int) := by omega
        simp [g2, hl1, hl2, Tryz.results195]
end Go.Av

/-! part Z178 -/
namespace Go.Av
open Go.Proofs
set_option maxRecDepth 100000
theorem lix_rng (l : List UInt8) (c : UInt8) : -1 ≤ lixB l c ∧ lixB l c < l.length := by
  induction l with
  | nil => simp [lixB]
  | cons a l ih => simp only [lixB, List.length_cons]; split <;> (try split) <;> omega
def colS (s : List UInt8) : Bool := decide (0 ≤ lixB s 58) && decide (lixB s 93 < lixB s 58)
def hstS (s : List UInt8) : List UInt8 := if colS s = true then s.take (lixB s 58).toNat else s
def prtS (s : List UInt8) : List UInt8 := if colS s = true then s.drop ((lixB s 58).toNat + 1) else []
def prtK (p : List UInt8) : Bool := decide (p = []) || (decide ((numB 65535 p).2 = 0) && decide (p.length ≤ 5))
def prtN (p : List UInt8) : Int := if p = [] then 80 else (numB 65535 p).1
/-- a host and a port -/
def seatB (s : List UInt8) : Option (List UInt8 × Int) := if (hostB (hstS s) && prtK (prtS s)) = true then some (lowB (hstS s), prtN (prtS s)) else none
def seatU (s : List UInt8) : List PC := if prtK (prtS s) = true then uriP (lowB (hstS s)) (prtN (prtS s)) [] else uriP [] 0 []
theorem hst_len (s : List UInt8) : (hstS s).length ≤ s.length ∧ (prtS s).length ≤ s.length := by
  unfold hstS prtS
  split <;> simp <;> omega
set_option maxHeartbeats 4000000 in
theorem seat141g (s : List UInt8) (hs : s.length ≤ 1000000) : PureC Tryz.prog 141 [.str s] (.tp [.agg false (seatU s), .bool (seatB s).isSome]) := by
  have hhl := hst_len s
  have hN := named185g (hstS s) (by omega)
  have hL := lower76 (hstS s) (by omega)
  have hP := number60 (prtS s) 65535 (by omega) (by omega) (by omega)
  have hio := lix_rng s 58
  have hres : (seatB s).isSome = (hostB (hstS s) && prtK (prtS s)) := by
    unfold seatB; cases h : (hostB (hstS s) && prtK (prtS s)) <;> simp
  rw [hres]
  refine pure_of_aw (ys := [_, _]) [] [(11, [(0, .r 1), (3, .s 2 [1])])] [(1, 1), (2, 0)] mixed Tryz.func141 rfl (by kernel_rfl) (by kernel_rfl) (by simp [Tryz.ntmps141]) rfl ?_
  have tail : ∀ (h p : List UInt8), h = hstS s → p = prtS s → True := fun _ _ _ _ => trivial
  unfold seatU prtK prtN
  simp
  refine pcall_of (last110 s 58 hs) (by simp [u8P]) ?_
  cases hc : colS s with
  | false =>
    have hp : prtS s = [] := by unfold prtS; rw [hc]; rfl
    have hh : hstS s = s := by unfold hstS; rw [hc]; rfl
    rw [hh] at hN hL
    rw [hp, hh]
    by_cases c1 : 0 ≤ lixB s 58
    · have c2 : ¬ lixB s 93 < lixB s 58 := by
        unfold colS at hc; rw [decide_eq_true c1, Bool.true_and] at hc; simpa using hc
      simp [c1]
      refine pcall_of (last110 s 93 hs) (by simp [u8P]) ?_
      simp [c2]
      refine pcall_of hL (by simp) ?_
      simp
      refine call_of hN ?_
      simp [uriP, Tryz.results141]
    · simp [c1]
      refine pcall_of hL (by simp) ?_
      simp
      refine call_of hN ?_
      simp [uriP, Tryz.results141]
  | true =>
    have hc2 := hc
    unfold colS at hc2
    obtain ⟨c1, c2⟩ := Bool.and_eq_true_iff.1 hc2
    have c1 := of_decide_eq_true c1
    have c2 := of_decide_eq_true c2
    have hh : hstS s = s.take (lixB s 58).toNat := by unfold hstS; rw [if_pos hc]
    have hp : prtS s = s.drop ((lixB s 58).toNat + 1) := by unfold prtS; rw [if_pos hc]
    have hlt : (lixB s 58).toNat + 1 ≤ s.length := by omega
    have hle : (lixB s 58).toNat ≤ s.length := by omega
    have hw : IntKind.i64.wrap (lixB s 58 + 1) = lixB s 58 + 1 := wrap64_id (by omega) (by omega)
    have hlI : lixB s 58 ≤ (s.length : Int) := by omega
    have hlI2 : lixB s 58 + 1 ≤ (s.length : Int) := by omega
    have hnn : 0 ≤ lixB s 58 + 1 := by omega
    have htn : (lixB s 58 + 1).toNat = (lixB s 58).toNat + 1 := by omega
    simp [c1]
    refine pcall_of (last110 s 93 hs) (by simp [u8P]) ?_
    simp [c1, c2, hw, hlt, hle, hlI, hlI2, hnn, htn, ← hh, ← hp]
    refine pcall_of hL (by simp) ?_
    simp
    generalize prtS s = p at *
    generalize hstS s = h at *
    by_cases hpe : p = []
    · subst hpe
      simp
      refine call_of hN ?_
      simp [uriP, Tryz.results141]
    · have hpe' : (p != []) = true := by simpa using hpe
      simp [hpe, hpe']
      refine pcall_of hP (by simp) ?_
      generalize numB 65535 p = q at *
      obtain ⟨q1, q2⟩ := q
      by_cases hq : q2 = 0
      · have hq' : (q2 != 0) = false := by simpa using hq
        by_cases h5 : p.length ≤ 5
        · have h5' : ¬ (5 : Int) < (p.length : Int) := by omega
          have h5'' : ¬ 5 < p.length := by omega
          simp [hq, hq', h5, h5', h5'']
          refine call_of hN ?_
          simp [uriP, Tryz.results141]
        · have h5' : (5 : Int) < (p.length : Int) := by omega
          have h5'' : 5 < p.length := by omega
          simp [hq, hq', h5, h5', h5'', uriP, Tryz.results141]
      · have hq' : (q2 != 0) = true := by simpa using hq
        simp [hq, hq', uriP, Tryz.results141]
theorem lix_take (s : List UInt8) (c : UInt8) (m : Nat) (h : m < s.length) : lixB (s.take (m + 1)) c = if s[m] = c then (m : Int) else lixB (s.take m) c := by
  rw [List.take_succ_eq_append_getElem h, lixB_snoc, List.length_take, Nat.min_eq_left (by omega)]
set_option maxHeartbeats 4000000 in
theorem rseat148 (s : List UInt8) (hs : s.length ≤ 1000000) : PureC Tryz.prog 148 [.str s] (.tp [.str ((seatB s).getD ([], 0)).1, .int ((seatB s).getD ([], 0)).2, .bool (seatB s).isSome]) := by
  have hhl := hst_len s
  have hN := rhost195 (hstS s) (by omega)
  have hL := rlower32 (hstS s) (by omega)
  have hP := rnumber30 (prtS s) 65535 (by omega) (by omega) (by omega)
  refine pure_of_aw (ys := [_, _, _]) [] [] [] mixed Tryz.func148 rfl (by kernel_rfl) (by kernel_rfl) (by simp [Tryz.ntmps148]) rfl ?_
  obtain ⟨R, hR⟩ : ∃ R, R = seatB s := ⟨_, rfl⟩
  rw [← hR]
  have w0 : IntKind.i64.wrap ((s.length : Int) - 1) = (s.length : Int) - 1 := wrap64_id (by omega) (by omega)
  simp [w0]
  refine aw_loop0 (fun m : Nat => m ≤ s.length ∧ lixB s 58 = lixB (s.take m) 58 ∧ lixB s 93 = lixB (s.take m) 93) (fun m => [(0, .p (.str s)), (5, .p (.int s.length)), (6, .p (.int ((m : Int) - 1)))]) (fun m => m) s.length ⟨by omega, by simp, by simp⟩ (leN_id (by simp)) ?_
  rintro m ⟨g1, g2, g3⟩
  have nocut : colS s = false → hstS s = s ∧ prtS s = [] ∧ R = if hostB s = true then some (lowB s, 80) else none := fun hc => by
    have hh : hstS s = s := by unfold hstS; rw [hc]; rfl
    have hp : prtS s = [] := by unfold prtS; rw [hc]; rfl
    refine ⟨hh, hp, ?_⟩
    rw [hR]; unfold seatB; rw [hh, hp]
    have : prtK [] = true := rfl
    rw [this, Bool.and_true]; rfl
  have wl : IntKind.i64.wrap ((s.length : Int) + 1) = (s.length : Int) + 1 := wrap64_id (by omega) (by omega)
  have wl2 : (s.length : Int) ≤ (s.length : Int) + 1 := by omega
  cases m with
  | zero =>
    have hc : colS s = false := by unfold colS; rw [g2, g3]; rfl
    obtain ⟨hh, hp, hRR⟩ := nocut hc
    rw [hh] at hN hL
    simp
    refine pcall_of hN (by simp) ?_
    cases hb : hostB s with
    | false => rw [hb] at hRR; simp at hRR; simp [hRR, Tryz.results148]
    | true =>
      rw [hb] at hRR; simp at hRR
      simp
      refine pcall_of hL (by simp) ?_
      simp [wl, wl2, hRR, Tryz.results148]
  | succ k =>
    have hk : k < s.length := by omega
    have e1 : ((k + 1 : Nat) : Int) - 1 = (k : Int) := by omega
    have w1 : IntKind.i64.wrap ((k : Int) - 1) = (k : Int) - 1 := wrap64_id (by omega) (by omega)
    have r58 := lix_rng (s.take k) 58
    have r93 := lix_rng (s.take k) 93
    rw [List.length_take, Nat.min_eq_left (by omega)] at r58 r93
    rw [lix_take s _ k hk] at g2 g3
    simp only [e1]
    by_cases c93 : s[k] = 93
    · have d93 : ((s[k].toNat : Int) == 93) = true := by rw [c93]; rfl
      have hc : colS s = false := by
        unfold colS; rw [g2, g3, if_pos c93, if_neg (by rw [c93]; decide)]
        simp; omega
      obtain ⟨hh, hp, hRR⟩ := nocut hc
      rw [hh] at hN hL
      simp [hk, d93]
      refine pcall_of hN (by simp) ?_
      cases hb : hostB s with
      | false => rw [hb] at hRR; simp at hRR; simp [hRR, Tryz.results148]
      | true =>
        rw [hb] at hRR; simp at hRR
        simp
        refine pcall_of hL (by simp) ?_
        simp [wl, wl2, hRR, Tryz.results148]
    · have d93 : ((s[k].toNat : Int) == 93) = false := ne_u8 c93
      by_cases c58 : s[k] = 58
      · have d58 : ((s[k].toNat : Int) == 58) = true := by rw [c58]; rfl
        rw [if_pos c58] at g2
        rw [if_neg c93] at g3
        have hc : colS s = true := by unfold colS; rw [g2, g3]; simp; omega
        have htn : (lixB s 58).toNat = k := by omega
        have hh : hstS s = s.take k := by unfold hstS; rw [if_pos hc, htn]
        have hp : prtS s = s.drop (k + 1) := by unfold prtS; rw [if_pos hc, htn]
        have hle : k ≤ s.length := by omega
        have hle1 : k + 1 ≤ s.length := by omega
        have wk : IntKind.i64.wrap ((k : Int) + 1) = (k : Int) + 1 := wrap64_id (by omega) (by omega)
        have knn : (0 : Int) ≤ (k : Int) + 1 := by omega
        have kle : (k : Int) + 1 ≤ (s.length : Int) := by omega
        have hpl : (prtS s).length = s.length - (k + 1) := by rw [hp]; simp
        have hsub : IntKind.i64.wrap ((s.length : Int) - (k : Int)) = (s.length : Int) - (k : Int) := wrap64_id (by omega) (by omega)
        have hsub2 : IntKind.i64.wrap ((s.length : Int) - (k : Int) - 1) = ((prtS s).length : Int) := by rw [wrap64_id (by omega) (by omega)]; omega
        unfold seatB prtK prtN at hR
        simp [hk, d93, d58, hle, ← hh]
        refine pcall_of hN (by simp) ?_
        cases hb : hostB (hstS s) with
        | false => rw [hb] at hR; simp at hR; simp [hR, Tryz.results148]
        | true =>
          rw [hb] at hR; simp only [Bool.true_and] at hR
          simp [hle, ← hh]
          refine pcall_of hL (by simp) ?_
          by_cases hpe : prtS s = []
          · have hz : (s.length : Int) ≤ (k : Int) + 1 := by rw [hpe] at hpl; simp at hpl; omega
            rw [hpe] at hR
            simp at hR
            simp [wk, hz, hR, Tryz.results148]
          · have hz : ¬ (s.length : Int) ≤ (k : Int) + 1 := by
              have := List.length_pos_iff.2 hpe; omega
            rw [decide_eq_false hpe, if_neg hpe] at hR
            simp only [Bool.false_or] at hR
            simp [wk, hz, knn, kle, hle1, ← hp]
            refine pcall_of hP (by simp) ?_
            generalize numB 65535 (prtS s) = q at *
            obtain ⟨q1, q2⟩ := q
            by_cases hq : q2 = 0
            · have hq' : (q2 != 0) = false := by simpa using hq
              by_cases h5 : (prtS s).length ≤ 5
              · have h5' : ¬ (5 : Int) < ((prtS s).length : Int) := by omega
                have h5'' : ¬ 5 < (prtS s).length := by omega
                simp [hq, h5] at hR
                simp [hq, hq', hsub, hsub2, h5', h5'', hR, Tryz.results148]
              · have h5' : (5 : Int) < ((prtS s).length : Int) := by omega
                have h5'' : 5 < (prtS s).length := by omega
                simp [hq, h5] at hR
                simp [hq, hq', hsub, hsub2, h5', h5'', hR, Tryz.results148]
            · have hq' : (q2 != 0) = true := by simpa using hq
              simp [hq] at hR
              simp [hq, hq', hR, Tryz.results148]
      · have d58 : ((s[k].toNat : Int) == 58) = false := ne_u8 c58
        rw [if_neg c58] at g2
        rw [if_neg c93] at g3
        simp [hk, d93, d58, w1]
        exact ⟨k, ⟨by omega, g2, g3⟩, by omega, leN_id (by simp)⟩
end Go.Av

/-! part Z179 -/
namespace Go.Av
open Go.Proofs
set_option maxRecDepth 100000
theorem pct_len (a b : UInt8) : (pctC a b).length ≤ 3 := by unfold pctC; split <;> simp
theorem codR_len (m : List UInt8) : ∀ n (s a : List UInt8), s.length ≤ n → codR m s = some a → a.length ≤ s.length
  | 0, s, a, h, e => by
    have : s = [] := List.eq_nil_of_length_eq_zero (by omega)
    subst this
    simp [codR] at e; subst e; simp
  | n + 1, s, a, h, e => by
    match s, h, e with
    | [], h, e => simp [codR] at e; subst e; simp
    | c :: l, h, e =>
      by_cases h37 : c = 37
      · subst h37
        match l, h, e with
        | [], h, e => rw [codR_short (by simp)] at e; cases e
        | [x], h, e => rw [codR_short (by simp)] at e; cases e
        | x :: y :: l, h, e =>
          by_cases hh : hxB x = true ∧ hxB y = true
          · rw [codR_hex hh] at e
            cases h2 : codR m l with
            | none => rw [h2] at e; cases e
            | some b =>
              rw [h2] at e
              simp only [Option.map_some, Option.some.injEq] at e
              have := codR_len m n l b (by simp at h; omega) h2
              have h3 := pct_len x y
              rw [← e]; simp; omega
          · rw [codR_nohex hh] at e; cases e
      · cases ho : ofU c (moreU m) with
        | false => rw [codR_bad h37 ho] at e; cases e
        | true =>
          rw [codR_ok h37 ho] at e
          cases h2 : codR m l with
          | none => rw [h2] at e; cases e
          | some b =>
            rw [h2] at e
            simp only [Option.map_some, Option.some.injEq] at e
            have := codR_len m n l b (by simp at h; omega) h2
            rw [← e]; simp; omega
/-- a path of octets made normal, without its dots -/
def pathB (a : List UInt8) : List UInt8 := absC (segF [] (splB 47 ((a.drop 1).count 47) (a.drop 1)))
def badP (a : List UInt8) : Bool := !decide (a = []) && !decide (a.head? = some 47)
/-- a path and a query, put in their place -/
def plB (s : List UInt8) : Option (List UInt8) :=
  match codR [] (cutB s 63).1, codR [63] (cutB s 63).2.1 with
  | some a, some q => if badP a = true then none else some (pathB a ++ if (cutB s 63).2.2 = true then 63 :: q else [])
  | _, _ => none
def uOf (h : List UInt8) (p : Int) : Option (List UInt8) → List PC
  | some t => uriP h p t
  | none => uriP [] 0 []
def eOf {α : Type} (e : Int) : Option α → Int
  | some _ => 0
  | none => e
theorem path_len (a : List UInt8) (h : badP a = false) : (pathB a).length ≤ a.length + 1 := by
  unfold pathB
  rw [absC_len]
  have h1 := segF_wt (splB 47 ((a.drop 1).count 47) (a.drop 1)) []
  have h2 := spl_wt (a.drop 1)
  rw [h2] at h1
  simp [wtL] at h1 ⊢
  omega
theorem seg_path (a : List UInt8) (hl : a.length ≤ 100000) (h : badP a = false) : PureC Tryz.prog 145 [.str (if a = [] then [47] else a)] (.str (pathB a)) := by
  by_cases ha : a = []
  · subst ha; exact segments145g [] (by simp)
  · rw [if_neg ha]
    cases a with
    | nil => exact absurd rfl ha
    | cons x t =>
      have hx : x = 47 := by simpa [badP] using h
      subst hx
      exact segments145g t (by simp at hl; omega)
theorem rdots_path (a : List UInt8) (hl : a.length ≤ 100000) (h : badP a = false) : PureC Tryz.prog 197 [.str (if a = [] then [47] else a)] (.str (pathB a)) := by
  have key : ∀ t : List UInt8, t.length ≤ 100000 → PureC Tryz.prog 197 [.str (47 :: t)] (.str (pathB (47 :: t))) := fun t ht => by
    obtain ⟨i1, i2, _⟩ := spl_absC (t.count 47) t rfl
    have := rdots197 (splB 47 (t.count 47) t) i2 (by rw [i1]; simp; omega)
    rw [i1] at this
    exact this
  by_cases ha : a = []
  · subst ha; exact key [] (by simp)
  · rw [if_neg ha]
    cases a with
    | nil => exact absurd rfl ha
    | cons x t =>
      have hx : x = 47 := by simpa [badP] using h
      subst hx
      exact key t (by simp at hl; omega)
theorem cut_len (s : List UInt8) (c : UInt8) : (cutB s c).1.length ≤ s.length ∧ (cutB s c).2.1.length ≤ s.length := by
  unfold cutB
  split <;> simp <;> omega
theorem bad_at {a : List UInt8} (hne : a ≠ []) : ∃ x, a[0]? = some x ∧ badP a = !decide (x = 47) := by
  cases a with
  | nil => exact absurd rfl hne
  | cons x t => exact ⟨x, rfl, by simp [badP]⟩
set_option maxHeartbeats 4000000 in
theorem placed108g (h : List UInt8) (p : Int) (t s : List UInt8) (hs : s.length ≤ 99999) : PureC Tryz.prog 108 [.agg false (uriP h p t), .str s] (.tp [.agg false (uOf h p (plB s)), .int (eOf 10 (plB s))]) := by
  refine pure_of_aw (ys := [_, _]) [2] [] [] mixed Tryz.func108 rfl (by kernel_rfl) (by kernel_rfl) (by simp [Tryz.ntmps108]) rfl ?_
  obtain ⟨R, hR⟩ : ∃ R, R = plB s := ⟨_, rfl⟩
  rw [← hR]
  unfold plB at hR
  have hcl := cut_len s 63
  have hc := cut100 s 63 (by omega)
  generalize cutB s 63 = cu at *
  obtain ⟨c1, c2, c3⟩ := cu
  simp only at hR hcl hc
  have k1 := coded144g c1 [] (by omega)
  have k2 := coded144g c2 [63] (by omega)
  have kl1 := codR_len [] c1.length c1
  have kl2 := codR_len [63] c2.length c2
  generalize codR [] c1 = o1 at *
  generalize codR [63] c2 = o2 at *
  simp [uriP]
  refine pcall_of hc (by simp) ?_
  simp
  refine pcall_of k1 (by simp) ?_
  simp
  refine pcall_of k2 (by simp) ?_
  cases o1 with
  | none =>
    simp only at hR
    subst hR
    simp [uOf, eOf, uriP, Tryz.results108]
  | some a =>
    cases o2 with
    | none =>
      simp only at hR
      subst hR
      simp [uOf, eOf, uriP, Tryz.results108]
    | some q =>
      have al := kl1 a (Nat.le_refl _) rfl
      have ql := kl2 q (Nat.le_refl _) rfl
      simp only at hR
      by_cases ha : a = []
      · subst ha
        have hbad : badP [] = false := rfl
        have hsg := seg_path [] (by simp) rfl
        rw [if_pos rfl] at hsg
        have hpl := path_len [] rfl
        rw [hbad, if_neg (by simp)] at hR
        generalize pathB [] = P at *
        simp
        refine pcall_of hsg (by simp) ?_
        cases c3 with
        | false =>
          simp at hR
          subst hR
          simp [uOf, eOf, uriP, Tryz.results108]
        | true =>
          simp at hR
          subst hR
          simp at hpl
          simp [uOf, eOf, uriP, Tryz.results108]
          omega
      · obtain ⟨x, hx, hb⟩ := bad_at ha
        have hal : 0 < a.length := List.length_pos_iff.2 ha
        have hgx : a[0] = x := (List.getElem_eq_iff hal).2 hx
        have hne : (a != []) = true := by simpa using ha
        have hne2 : (a == []) = false := by simpa using ha
        by_cases hx47 : x = 47
        · have hx' : ((x.toNat : Int) != 47) = false := by rw [hx47]; rfl
          have hbad : badP a = false := by rw [hb, hx47]; rfl
          have hsg := seg_path a (by omega) hbad
          rw [if_neg ha] at hsg
          have hpl := path_len a hbad
          rw [hbad, if_neg (by simp)] at hR
          generalize pathB a = P at *
          simp [hne, hne2, hal, hgx, hx']
          refine pcall_of hsg (by simp) ?_
          cases c3 with
          | false =>
            simp at hR
            subst hR
            simp [uOf, eOf, uriP, Tryz.results108]
          | true =>
            simp at hR
            subst hR
            simp [uOf, eOf, uriP, Tryz.results108]
            omega
        · have hx' : ((x.toNat : Int) != 47) = true := by have := ne_u8 hx47; simpa using this
          have hbad : badP a = true := by rw [hb]; simp [hx47]
          rw [hbad, if_pos rfl] at hR
          subst hR
          simp [hne, hne2, hal, hgx, hx', uOf, eOf, uriP, Tryz.results108]
/-- the document's text of a place, where it may be or not -/
def plX (s : List UInt8) : List UInt8 :=
  match codR [] (cutB s 63).1 with
  | none => []
  | some a => if badP a = true then [] else pathB a ++ if (cutB s 63).2.2 = true then 63 :: (codR [63] (cutB s 63).2.1).getD [] else []
theorem plX_eq {s t : List UInt8} (h : plB s = some t) : plX s = t := by
  unfold plB at h
  unfold plX
  cases h1 : codR [] (cutB s 63).1 with
  | none => rw [h1] at h; cases h
  | some a =>
    cases h2 : codR [63] (cutB s 63).2.1 with
    | none => rw [h1, h2] at h; cases h
    | some q =>
      rw [h1, h2] at h
      simp only at h ⊢
      split at h
      · cases h
      · rename_i hb
        rw [if_neg hb]
        simp only [Option.some.injEq] at h
        exact h
theorem cut_at (s : List UInt8) (k : Nat) (h : k ≤ s.length) (h2 : 63 ∉ s.take k) (h3 : k = s.length ∨ s[k]? = some 63) : cutB s 63 = if k = s.length then (s, [], false) else (s.take k, s.drop (k + 1), true) := by
  unfold cutB
  rcases h3 with rfl | h3
  · rw [List.take_length] at h2
    rw [if_pos (ix_none h2), if_pos rfl]
  · obtain ⟨l1, l2⟩ := List.getElem?_eq_some_iff.1 h3
    have e : s = s.take k ++ 63 :: s.drop (k + 1) := by
      rw [← l2, ← List.drop_eq_getElem_cons l1, List.take_append_drop]
    have hx : ixB s 63 = k := by
      have := ix_at (s.drop (k + 1)) h2
      rw [← e, List.length_take, Nat.min_eq_left h] at this
      exact this
    rw [hx, if_neg (by omega), if_neg (by omega)]
    simp
set_option maxHeartbeats 4000000 in
theorem rplace149 (s : List UInt8) (hs : s.length ≤ 99999) : PureC Tryz.prog 149 [.str s] (.tp [.str (plX s), .bool (plB s).isSome]) := by
  refine pure_of_aw (ys := [_, _]) [] [] [] mixed Tryz.func149 rfl (by kernel_rfl) (by kernel_rfl) (by simp [Tryz.ntmps149]) rfl ?_
  obtain ⟨R, hR⟩ : ∃ R, R = (plB s).isSome := ⟨_, rfl⟩
  obtain ⟨X, hX⟩ : ∃ X, X = plX s := ⟨_, rfl⟩
  rw [← hR, ← hX]
  unfold plB at hR
  unfold plX at hX
  simp
  refine aw_loop0 (fun k : Nat => k ≤ s.length ∧ 63 ∉ s.take k) (fun k => [(0, .p (.str s)), (4, .p (.int k))]) (fun k => s.length - k) 0 ⟨by omega, by simp⟩ (leN_id (by simp)) ?_
  rintro k ⟨g1, g2⟩
  have hstep : (∃ c : k < s.length, s[k] ≠ 63) ∨ (k = s.length ∨ ∃ c : k < s.length, s[k] = 63) := by
    rcases Nat.lt_or_ge k s.length with c | c
    · by_cases e : s[k] = 63
      · exact .inr (.inr ⟨c, e⟩)
      · exact .inl ⟨c, e⟩
    · exact .inr (.inl (by omega))
  rcases hstep with ⟨c, e⟩ | hend
  · have e' : ((s[k].toNat : Int) != 63) = true := by have := ne_u8 e; simpa using this
    have wk : IntKind.i64.wrap ((k : Int) + 1) = ((k + 1 : Nat) : Int) := by rw [wrap64_id (by omega) (by omega)]; rfl
    simp [c, e', wk]
    refine ⟨k + 1, ⟨by omega, ?_⟩, by omega, leN_id (by simp)⟩
    intro hm
    rw [List.take_succ_eq_append_getElem c] at hm
    rcases List.mem_append.1 hm with h | h
    · exact g2 h
    · simp at h; exact e h.symm
  · have hcut := cut_at s k g1 g2 (hend.imp id fun ⟨c, e⟩ => by rw [List.getElem?_eq_getElem c, e])
    have htl : (s.take k).length ≤ 99999 := by simp; omega
    have k1 := rcoded196 (s.take k) false (by omega)
    have kl1 := codR_len [] (s.take k).length (s.take k)
    have e1 : (cutB s 63).1 = s.take k := by
      rw [hcut]; split
      · rename_i h; rw [h, List.take_length]
      · rfl
    have hq1 : qryM false = [] := rfl
    have hq2 : qryM true = [63] := rfl
    rw [hq1] at k1
    rw [e1] at hR hX
    generalize codR [] (s.take k) = o1 at *
    have go : callP Tryz.prog 196 [] [AV.p (.str (s.take k)), AV.p (.bool false)] ⟨[], [], 0⟩ = callP Tryz.prog 196 [] [AV.p (.str (s.take k)), AV.p (.bool false)] ⟨[], [], 0⟩ := rfl
    rcases hend with hk | ⟨c, e⟩
    · subst hk
      have e2 : (cutB s 63).2.1 = [] := by rw [hcut, if_pos rfl]
      have e3 : (cutB s 63).2.2 = false := by rw [hcut, if_pos rfl]
      rw [e2, e3] at hR
      rw [e2, e3] at hX
      rw [List.take_length] at k1 kl1
      simp
      refine pcall_of k1 (by simp) ?_
      cases o1 with
      | none =>
        simp at hR hX
        simp [hR, hX, Tryz.results149]
      | some a =>
        have al := kl1 a (by simp) rfl
        have hcod : codR [63] [] = some [] := rfl
        rw [hcod] at hR hX
        simp only at hR hX
        by_cases ha : a = []
        · subst ha
          have hd := rdots_path [] (by simp) rfl
          rw [if_pos rfl] at hd
          have hb : badP [] = false := rfl
          rw [hb] at hR hX
          simp at hR hX
          simp
          refine pcall_of hd (by simp) ?_
          simp [hR, hX, Tryz.results149]
        · obtain ⟨x, hx, hb⟩ := bad_at ha
          have hal : 0 < a.length := List.length_pos_iff.2 ha
          have hgx : a[0] = x := (List.getElem_eq_iff hal).2 hx
          have hne : (a != []) = true := by simpa using ha
          have hne2 : (a == []) = false := by simpa using ha
          by_cases hx47 : x = 47
          · have hx' : ((x.toNat : Int) != 47) = false := by rw [hx47]; rfl
            have hbad : badP a = false := by rw [hb, hx47]; rfl
            have hd := rdots_path a (by omega) hbad
            rw [if_neg ha] at hd
            rw [hbad] at hR hX
            simp at hR hX
            simp [hne, hne2, hal, hgx, hx']
            refine pcall_of hd (by simp) ?_
            simp [hR, hX, Tryz.results149]
          · have hx' : ((x.toNat : Int) != 47) = true := by have := ne_u8 hx47; simpa using this
            have hbad : badP a = true := by rw [hb]; simp [hx47]
            rw [hbad] at hR hX
            simp at hR hX
            simp [hne, hne2, hal, hgx, hx', hR, hX, Tryz.results149]
    · have hnk : ¬ k = s.length := by omega
      have e2 : (cutB s 63).2.1 = s.drop (k + 1) := by rw [hcut, if_neg hnk]
      have e3 : (cutB s 63).2.2 = true := by rw [hcut, if_neg hnk]
      rw [e2, e3] at hR
      rw [e2, e3] at hX
      have k2 := rcoded196 (s.drop (k + 1)) true (by simp; omega)
      have kl2 := codR_len [63] (s.drop (k + 1)).length (s.drop (k + 1))
      rw [hq2] at k2
      generalize codR [63] (s.drop (k + 1)) = o2 at *
      have e' : ((s[k].toNat : Int) != 63) = false := by rw [e]; rfl
      have hle : k ≤ s.length := by omega
      have hle1 : k + 1 ≤ s.length := by omega
      have wk : IntKind.i64.wrap ((k : Int) + 1) = (k : Int) + 1 := wrap64_id (by omega) (by omega)
      have knn : (0 : Int) ≤ (k : Int) + 1 := by omega
      have kle : (k : Int) + 1 ≤ (s.length : Int) := by omega
      have hz : ((k : Int) == (s.length : Int)) = false := by simp; omega
      have hdl : (s.drop (k + 1)).length ≤ 99999 := by simp; omega
      simp [c, e', hle]
      refine pcall_of k1 (by simp) ?_
      cases o1 with
      | none =>
        simp at hR hX
        simp [hR, hX, Tryz.results149]
      | some a =>
        have al := kl1 a (Nat.le_refl _) rfl
        have hR2 : R = (o2.isSome && !badP a) := by
          rw [hR]
          cases o2 with
          | none => rfl
          | some q => cases hb : badP a <;> simp [hb]
        clear hR
        have hR := hR2
        clear hR2
        simp only at hX
        by_cases ha : a = []
        · subst ha
          have hd := rdots_path [] (by simp) rfl
          rw [if_pos rfl] at hd
          have hpl := path_len [] rfl
          have hb : badP [] = false := rfl
          rw [hb] at hR hX
          generalize pathB [] = P at *
          simp
          refine pcall_of hd (by simp) ?_
          simp [hz, wk, knn, kle, hle1]
          refine pcall_of k2 (by simp) ?_
          cases o2 with
          | none =>
            simp at hR hX hpl
            simp [hR, hX, Tryz.results149]
            omega
          | some q =>
            have ql := kl2 q (Nat.le_refl _) rfl
            simp at hR hX hpl
            simp [hR, hX, Tryz.results149]
            simp at ql
            omega
        · obtain ⟨x, hx, hb⟩ := bad_at ha
          have hal : 0 < a.length := List.length_pos_iff.2 ha
          have hgx : a[0] = x := (List.getElem_eq_iff hal).2 hx
          have hne : (a != []) = true := by simpa using ha
          have hne2 : (a == []) = false := by simpa using ha
          by_cases hx47 : x = 47
          · have hx' : ((x.toNat : Int) != 47) = false := by rw [hx47]; rfl
            have hbad : badP a = false := by rw [hb, hx47]; rfl
            have hd := rdots_path a (by omega) hbad
            rw [if_neg ha] at hd
            have hpl := path_len a hbad
            rw [hbad] at hR hX
            generalize pathB a = P at *
            simp [hne, hne2, hal, hgx, hx']
            refine pcall_of hd (by simp) ?_
            simp [hz, wk, knn, kle, hle1]
            refine pcall_of k2 (by simp) ?_
            cases o2 with
            | none =>
              simp at hR hX
              simp [hR, hX, Tryz.results149]
              omega
            | some q =>
              have ql := kl2 q (Nat.le_refl _) rfl
              simp at hR hX
              simp [hR, hX, Tryz.results149]
              simp at ql
              omega
          · have hx' : ((x.toNat : Int) != 47) = true := by have := ne_u8 hx47; simpa using this
            have hbad : badP a = true := by rw [hb]; simp [hx47]
            rw [hbad] at hR hX
            have hR2 : R = false := by rw [hR]; simp
            simp at hX
            simp [hne, hne2, hal, hgx, hx', hR2, hX, Tryz.results149]
theorem rat115 (h : List UInt8) (n : Int) (s : List UInt8) (hs : s.length ≤ 99999) : PureC Tryz.prog 115 [.str h, .int n, .str s] (.tp [.agg false (uOf h n (plB s)), .int (eOf 10 (plB s))]) := by
  have hp := rplace149 s hs
  refine pure_of_aw (ys := [_, _]) [] [] [] mixed Tryz.func115 rfl (by kernel_rfl) (by kernel_rfl) (by simp [Tryz.ntmps115]) rfl ?_
  simp
  refine pcall_of hp (by simp) ?_
  cases hq : plB s with
  | none => simp [uOf, eOf, uriP, Tryz.results115]
  | some t =>
    have := plX_eq hq
    simp [this, uOf, eOf, uriP, Tryz.results115]
end Go.Av

/-! part Z180 -/
namespace Go.Av
open Go.Proofs
set_option maxRecDepth 100000
/-- where an authority ends -/
def hpl : List UInt8 → Nat
  | [] => 0
  | x :: l => if x = 47 ∨ x = 63 then 0 else hpl l + 1
theorem hpl_le : ∀ l : List UInt8, hpl l ≤ l.length
  | [] => by simp [hpl]
  | x :: l => by have := hpl_le l; rw [hpl]; split <;> simp <;> omega
theorem hpl_at : ∀ (l : List UInt8) (k : Nat), k < hpl l → ∃ c, l[k]? = some c ∧ c ≠ 47 ∧ c ≠ 63
  | [], k, h => by simp [hpl] at h
  | x :: l, k, h => by
    rw [hpl] at h
    split at h
    · omega
    · rename_i hx
      rw [not_or] at hx
      cases k with
      | zero => exact ⟨x, rfl, hx.1, hx.2⟩
      | succ k => exact hpl_at l k (by omega)
theorem hpl_end : ∀ l : List UInt8, hpl l = l.length ∨ l[hpl l]? = some 47 ∨ l[hpl l]? = some 63
  | [] => by simp [hpl]
  | x :: l => by
    rw [hpl]
    split
    · rename_i hx; rcases hx with rfl | rfl <;> simp
    · rcases hpl_end l with h | h | h
      · left; simp [h]
      · right; left; simpa using h
      · right; right; simpa using h
def minI (n i : Int) : Int := if 0 ≤ i then min n i else n
theorem min_step (L a b h : Int) (hL : 0 ≤ L) (ha : -1 ≤ a) (hb : -1 ≤ b) (ih : minI (minI L a) b = h) : minI (minI (L + 1) (if a < 0 then -1 else a + 1)) (if b < 0 then -1 else b + 1) = h + 1 := by
  rw [← ih]
  unfold minI
  by_cases h1 : a < 0 <;> by_cases h2 : b < 0
  all_goals simp only [h1, h2, if_true, if_false]
  all_goals repeat' split
  all_goals omega
theorem hpl_min : ∀ l : List UInt8, minI (minI l.length (ixB l 47)) (ixB l 63) = hpl l
  | [] => rfl
  | x :: l => by
    have ih := hpl_min l
    have a1 := ixB_ge l 47
    have a2 := ixB_ge l 63
    rw [ixB_cons, ixB_cons, hpl]
    by_cases h1 : x = 47
    · subst h1; unfold minI; simp; split <;> (try split) <;> omega
    · by_cases h2 : x = 63
      · subst h2; unfold minI; simp; split <;> omega
      · rw [if_neg h1, if_neg h2, if_neg (show ¬ (x = 47 ∨ x = 63) from fun e => e.elim h1 h2)]
        have := min_step l.length (ixB l 47) (ixB l 63) (hpl l) (by omega) a1 a2 ih
        simpa using this
def httpU : List UInt8 := [104, 116, 116, 112, 58, 47, 47]
/-- what a text is read as -/
def prsB (s : List UInt8) : Option (List UInt8 × Int × List UInt8) :=
  if 8000 < s.length then none else if lowB (s.take 7) ≠ httpU then none else
  match seatB ((s.drop 7).take (hpl (s.drop 7))) with
  | none => none
  | some (h, p) => (plB ((s.drop 7).drop (hpl (s.drop 7)))).map fun t => (h, p, t)
def uP : Option (List UInt8 × Int × List UInt8) → List PC
  | some (h, p, t) => uriP h p t
  | none => uriP [] 0 []
def prsE (s : List UInt8) : Int := if 8000 < s.length then 12 else 10
set_option maxHeartbeats 4000000 in
theorem parse105 (s : List UInt8) (hs : s.length ≤ 1000000) : PureC Tryz.prog 105 [.str s] (.tp [.agg false (uP (prsB s)), .int (eOf (prsE s) (prsB s))]) := by
  refine pure_of_aw (ys := [_, _]) [] [(17, [(0, .r 1), (7, .s 2 [1])])] [(1, 1), (2, 0)] mixed Tryz.func105 rfl (by kernel_rfl) (by kernel_rfl) (by simp [Tryz.ntmps105]) rfl ?_
  obtain ⟨R, hR⟩ : ∃ R, R = prsB s := ⟨_, rfl⟩
  rw [← hR]
  unfold prsB at hR
  unfold prsE
  by_cases h8 : 8000 < s.length
  · have h8' : (8000 : Int) < (s.length : Int) := by omega
    rw [if_pos h8] at hR
    subst hR
    simp [h8, h8', uP, eOf, uriP, Tryz.results105]
  have h8' : ¬ (8000 : Int) < (s.length : Int) := by omega
  rw [if_neg h8] at hR
  have hb := begins104 s hs
  simp [h8, h8']
  refine pcall_of hb (by simp) ?_
  by_cases hh : lowB (s.take 7) = httpU
  case neg =>
    rw [if_pos hh] at hR
    subst hR
    unfold httpU at hh
    simp [hh, uP, eOf, uriP, Tryz.results105]
  rw [if_neg (by simp [hh])] at hR
  unfold httpU at hh
  have hdl : (s.drop 7).length ≤ 8000 := by simp; omega
  have hmin := hpl_min (s.drop 7)
  have hrl : (s.drop 7).length = s.length - 7 := by simp
  have hle := hpl_le (s.drop 7)
  have i1 := sindex93 (s.drop 7) 47
  have i2 := sindex93 (s.drop 7) 63
  have hst := seat141g ((s.drop 7).take (hpl (s.drop 7))) (by simp; omega)
  have hpl2 := fun h p => placed108g h p [] ((s.drop 7).drop (hpl (s.drop 7))) (by simp; omega)
  have hsu : ∀ h p, seatB ((s.drop 7).take (hpl (s.drop 7))) = some (h, p) → seatU ((s.drop 7).take (hpl (s.drop 7))) = uriP h p [] := fun h p e => by
    unfold seatB at e
    unfold seatU
    split at e
    · rename_i hk
      obtain ⟨_, hk2⟩ := Bool.and_eq_true_iff.1 hk
      simp only [Option.some.injEq, Prod.mk.injEq] at e
      rw [if_pos hk2, e.1, e.2]
    · cases e
  have hU : (seatU ((s.drop 7).take (hpl (s.drop 7)))).length = 3 := by unfold seatU; split <;> rfl
  simp [hh]
  generalize s.drop 7 = rest at *
  generalize seatU (rest.take (hpl rest)) = U at *
  generalize hpl rest = n at *
  obtain ⟨F, F0, F1, F2⟩ : ∃ F : Nat → Int, F 0 = rest.length ∧ F 1 = minI rest.length (ixB rest 47) ∧ F 2 = minI (minI rest.length (ixB rest 47)) (ixB rest 63) := ⟨fun i => if i = 0 then rest.length else if i = 1 then minI rest.length (ixB rest 47) else minI (minI rest.length (ixB rest 47)) (ixB rest 63), rfl, rfl, rfl⟩
  refine aw_loop (fun i : Nat => i ≤ 2) (fun i => [(2, .obj 0 0), (3, .p (.int 0)), (4, .p (.str rest)), (6, .p (.int (F i))), (25, .p (.sl [u8P 47, u8P 63])), (26, .p (.int 2)), (27, .p (.int i))])
    (fun _ => ⟨[(0, ⟨54, 3, [.p (.str []), .p (.int 0), .p (.str [])]⟩)], [], 1⟩) (fun i => 2 - i) 0 (by omega) _ (AS.le_refl _ _) (leN_id (by simp [u8P, F0, hrl])) ?_
  intro i hi
  have stp : ∀ a b : Int, minI a b = if 0 ≤ b then (if b < a then b else a) else a := fun a b => by unfold minI; split <;> (try split) <;> omega
  rcases (by omega : i = 0 ∨ i = 1 ∨ i = 2) with rfl | rfl | rfl
  · simp [u8P]
    refine pcall_of i1 (by simp) ?_
    rw [stp] at F1
    by_cases c : 0 ≤ ixB rest 47
    · rw [if_pos c] at F1
      simp [c, wr1, F0]
      exact ⟨1, by omega, by omega, leN_id (by simp [u8P, F1]; try (split <;> split <;> omega))⟩
    · rw [if_neg c] at F1
      simp [c, wr1]
      exact ⟨1, by omega, by omega, leN_id (by simp [u8P, F1, F0])⟩
  · simp [u8P]
    refine pcall_of i2 (by simp) ?_
    rw [← F1, stp] at F2
    by_cases c : 0 ≤ ixB rest 63
    · rw [if_pos c] at F2
      simp [c, wr2]
      exact ⟨2, by omega, by omega, leN_id (by simp [u8P, F2]; try (split <;> split <;> omega))⟩
    · rw [if_neg c] at F2
      simp [c, wr2]
      exact ⟨2, by omega, by omega, leN_id (by simp [u8P, F2])⟩
  · rw [F2, hmin]
    simp [hle]
    refine pcall_of hst (by simp) ?_
    cases hq : seatB (rest.take n) with
    | none =>
      rw [hq] at hR
      simp only at hR
      subst hR
      simp [hU, uP, eOf, uriP, Tryz.results105]
    | some hp =>
      obtain ⟨h, p⟩ := hp
      rw [hq] at hR
      simp only at hR
      rw [hsu h p hq]
      have hp2 := hpl2 h p
      cases hr : plB (rest.drop n) with
      | none =>
        rw [hr] at hR hp2
        simp only [Option.map_none] at hR
        subst hR
        simp [uriP]
        simp [uriP, uOf, eOf] at hp2
        simp [hle]
        refine call_of hp2 ?_
        simp [uP, eOf, uriP, Tryz.results105]
      | some t =>
        rw [hr] at hR hp2
        simp only [Option.map_some] at hR
        subst hR
        simp [uriP]
        simp [uriP, uOf, eOf] at hp2
        simp [hle]
        refine call_of hp2 ?_
        simp [uP, eOf, uriP, Tryz.results105]
end Go.Av

/-! part Z181 -/
namespace Go.Av
open Go.Proofs
set_option maxRecDepth 100000
theorem http113 (l : List UInt8) (hl : l.length ≤ 1000000) : PureC Tryz.prog 113 [.str l] (.bool (decide (lowB (l.take 7) = httpU))) := by
  refine pure_of_aw (ys := [_]) [] [] [] mixed Tryz.func113 rfl (by kernel_rfl) (by kernel_rfl) (by simp [Tryz.ntmps113]) rfl ?_
  unfold httpU
  simp
  by_cases h7 : l.length < 7
  · have hne : lowB (l.take 7) ≠ [104, 116, 116, 112, 58, 47, 47] := fun e => by
      have := congrArg List.length e
      simp [lowB] at this
      omega
    have d7 : decide ((7 : Int) ≤ (l.length : Int)) = false := decide_eq_false (by omega)
    simp [d7, hne, Tryz.results113]
  · have h7' : 7 ≤ l.length := by omega
    have d7 : decide ((7 : Int) ≤ (l.length : Int)) = true := decide_eq_true (by omega)
    simp [d7, h7']
    refine pcall_of (rlower32 (l.take 7) (by simp; omega)) (by simp) ?_
    by_cases e : lowB (l.take 7) = [104, 116, 116, 112, 58, 47, 47]
    · simp [e, h7', Tryz.results113]
    · have de : (lowB (l.take 7) == [104, 116, 116, 112, 58, 47, 47]) = false := by simpa using e
      simp [e, de, Tryz.results113]
theorem seat_eta (o : Option (List UInt8 × Int)) : o = none ∨ ∃ h p, o = some (h, p) := by
  cases o with
  | none => exact .inl rfl
  | some q => exact .inr ⟨q.1, q.2, rfl⟩
set_option maxHeartbeats 4000000 in
theorem rparse114 (s : List UInt8) (hs : s.length ≤ 1000000) : PureC Tryz.prog 114 [.str s] (.tp [.agg false (uP (prsB s)), .int (eOf (prsE s) (prsB s))]) := by
  refine pure_of_aw (ys := [_, _]) [] [] [] mixed Tryz.func114 rfl (by kernel_rfl) (by kernel_rfl) (by simp [Tryz.ntmps114]) rfl ?_
  obtain ⟨R, hR⟩ : ∃ R, R = prsB s := ⟨_, rfl⟩
  rw [← hR]
  unfold prsB at hR
  unfold prsE
  by_cases h8 : 8000 < s.length
  · have h8' : (8000 : Int) < (s.length : Int) := by omega
    rw [if_pos h8] at hR
    subst hR
    simp [h8, h8', uP, eOf, uriP, Tryz.results114]
  have h8' : ¬ (8000 : Int) < (s.length : Int) := by omega
  rw [if_neg h8] at hR
  have hb := http113 s hs
  simp [h8, h8']
  refine pcall_of hb (by simp) ?_
  by_cases hh : lowB (s.take 7) = httpU
  case neg =>
    rw [if_pos hh] at hR
    subst hR
    simp [hh, uP, eOf, uriP, Tryz.results114]
  rw [if_neg (by simp [hh])] at hR
  have h7 : 7 ≤ s.length := by
    have := congrArg List.length hh
    simp [lowB, httpU] at this
    omega
  have hdl : (s.drop 7).length = s.length - 7 := by simp
  have hle := hpl_le (s.drop 7)
  have hat := hpl_at (s.drop 7)
  have hend := hpl_end (s.drop 7)
  have hst := rseat148 ((s.drop 7).take (hpl (s.drop 7))) (by simp; omega)
  have hpl2 := fun h p => rat115 h p ((s.drop 7).drop (hpl (s.drop 7))) (by simp; omega)
  have hget : ∀ k, (s.drop 7)[k]? = s[7 + k]? := fun k => by rw [List.getElem?_drop]
  simp [hh]
  generalize hn : hpl (s.drop 7) = n at *
  refine aw_loop (fun k : Nat => k ≤ n) (fun k => [(0, .p (.str s)), (2, .obj 0 0), (3, .p (.int 0)), (4, .p (.int ((7 + k : Nat) : Int)))])
    (fun _ => ⟨[(0, ⟨54, 3, [.p (.str []), .p (.int 0), .p (.str [])]⟩)], [], 1⟩) (fun k => n - k) 0 (by omega) _ (AS.le_refl _ _) (leN_id (by simp)) ?_
  intro k hk
  by_cases c : k < n
  · obtain ⟨x, hx, x1, x2⟩ := hat k c
    rw [hget] at hx
    obtain ⟨hlt, hgx⟩ := List.getElem?_eq_some_iff.1 hx
    have x1' : ((x.toNat : Int) != 47) = true := by have := ne_u8 x1; simpa using this
    have x2' : ((x.toNat : Int) != 63) = true := by have := ne_u8 x2; simpa using this
    have hlI : (7 : Int) + (k : Int) < (s.length : Int) := by omega
    have hnn : (0 : Int) ≤ 7 + (k : Int) := by omega
    have htn : (7 + (k : Int)).toNat = 7 + k := by omega
    have wk : IntKind.i64.wrap ((7 : Int) + (k : Int) + 1) = ((7 + (k + 1) : Nat) : Int) := by rw [wrap64_id (by omega) (by omega)]; omega
    simp [hlI, hnn, htn, hlt, hx, hgx, x1', x2', wk]
    exact ⟨k + 1, by omega, by omega, leN_id (by simp)⟩
  · obtain rfl : k = n := by omega
    have hlI0 : (7 : Int) + (k : Int) ≤ (s.length : Int) := by omega
    have hnn : (0 : Int) ≤ 7 + (k : Int) := by omega
    have htn : (7 + (k : Int)).toNat = 7 + k := by omega
    have h7k : 7 + k ≤ s.length := by omega
    have h77 : (7 : Int) ≤ 7 + (k : Int) := by omega
    have hsub : 7 + k - 7 = k := by omega
    have htk : (s.drop 7).take k = (s.take (7 + k)).drop 7 := by rw [List.drop_take, hsub]
    have hdd : (s.drop 7).drop k = s.drop (7 + k) := by rw [List.drop_drop]
    have hstop : (¬ (7 : Int) + (k : Int) < (s.length : Int)) ∨ ((7 : Int) + (k : Int) < (s.length : Int) ∧ ∃ x, s[7 + k]? = some x ∧ (x = 47 ∨ x = 63)) := by
      rw [hget] at hend
      rcases hend with h | h | h
      · left; omega
      · right; obtain ⟨hlt, _⟩ := List.getElem?_eq_some_iff.1 h; exact ⟨by omega, 47, h, .inl rfl⟩
      · right; obtain ⟨hlt, _⟩ := List.getElem?_eq_some_iff.1 h; exact ⟨by omega, 63, h, .inr rfl⟩
    rw [htk] at hst hR
    rw [hdd] at hR
    simp only [hdd] at hpl2
    generalize hA : (s.take (7 + k)).drop 7 = A at *
    rcases hstop with hs1 | ⟨hs1, x, hx, rfl | rfl⟩
    all_goals
      first
        | (obtain ⟨hlt, hgx⟩ := List.getElem?_eq_some_iff.1 hx
           simp [hs1, hnn, htn, h7k, hlI0, h77, hA, hx, hgx, hlt]
           refine pcall_of hst (by simp) ?_)
        | (simp [hs1, hnn, htn, h7k, hlI0, h77, hA]
           refine pcall_of hst (by simp) ?_)
    all_goals
      rcases seat_eta (seatB A) with hq | ⟨h, p, hq⟩
      · rw [hq] at hR
        simp only at hR
        subst hR
        simp [hq, uP, eOf, uriP, Tryz.results114]
      · rw [hq] at hR
        simp only at hR
        have hp2 := hpl2 h p
        cases hr : plB (s.drop (7 + k)) with
        | none =>
          rw [hr] at hR hp2
          simp only [Option.map_none] at hR
          subst hR
          simp [uriP, uOf, eOf] at hp2
          simp [hq, h7k, hlI0, hnn, htn]
          refine pcall_of hp2 (by simp) ?_
          simp [uP, eOf, uriP, Tryz.results114]
        | some t =>
          rw [hr] at hR hp2
          simp only [Option.map_some] at hR
          subst hR
          simp [uriP, uOf, eOf] at hp2
          simp [hq, h7k, hlI0, hnn, htn]
          refine pcall_of hp2 (by simp) ?_
          simp [uP, eOf, uriP, Tryz.results114]
theorem print140g (h t : List UInt8) (p : Int) (h1 : h.length ≤ 100000) (h2 : t.length ≤ 100000) (p1 : -9223372036854775808 ≤ p) (p2 : p ≤ 9223372036854775807) :
    PureC Tryz.prog 140 [.agg false (uriP h p t)] (.str (httpU ++ h ++ (if p = 80 then [] else 58 :: dec p.toNat) ++ t)) := by
  have hd : (dec p.toNat).length ≤ 20 := dec_len 19 p.toNat (by omega)
  refine pure_of_aw (ys := [_]) [] [] [] mixed Tryz.func140 rfl (by kernel_rfl) (by kernel_rfl) (by simp [Tryz.ntmps140]) rfl ?_
  unfold httpU
  by_cases hp : p = 80
  · subst hp
    simp [uriP, Tryz.results140]
    omega
  · have hp' : (p != 80) = true := by simpa using hp
    simp [uriP, hp, hp']
    refine ⟨by omega, ?_⟩
    refine pcall_of (print71 p p1 p2) (by simp) ?_
    simp [Tryz.results140]
    omega
theorem rprint147 (h t : List UInt8) (p : Int) (h1 : h.length ≤ 100000) (h2 : t.length ≤ 100000) (p1 : -9223372036854775808 ≤ p) (p2 : p ≤ 9223372036854775807) :
    PureC Tryz.prog 147 [.agg false (uriP h p t)] (.str (httpU ++ h ++ (if p = 80 then [] else 58 :: dec p.toNat) ++ t)) := by
  have hd : (dec p.toNat).length ≤ 20 := dec_len 19 p.toNat (by omega)
  refine pure_of_aw (ys := [_]) [] [] [] mixed Tryz.func147 rfl (by kernel_rfl) (by kernel_rfl) (by simp [Tryz.ntmps147]) rfl ?_
  unfold httpU
  by_cases hp : p = 80
  · subst hp
    simp [uriP, Tryz.results147]
    omega
  · have hp' : (p != 80) = true := by simpa using hp
    simp [uriP, hp, hp']
    refine ⟨by omega, by omega, ?_⟩
    refine pcall_of (rprint29 p p1 p2) (by simp) ?_
    simp [Tryz.results147]
    omega
/-- a URI's text -/
def prtU (h : List UInt8) (p : Int) (t : List UInt8) : List UInt8 := httpU ++ h ++ (if p = 80 then [] else 58 :: dec p.toNat) ++ t
/-- may there be such a URI? -/
def rgtB (h : List UInt8) (p : Int) (t : List UInt8) : Bool := decide (prsB (prtU h p t) = some (h, p, t))
theorem prtU_len (h t : List UInt8) (p : Int) (h1 : h.length ≤ 100000) (h2 : t.length ≤ 100000) (p2 : p ≤ 9223372036854775807) : (prtU h p t).length ≤ 300000 := by
  have hd : (dec p.toNat).length ≤ 20 := dec_len 19 p.toNat (by omega)
  unfold prtU httpU
  split <;> simp <;> omega
theorem prs_eta (o : Option (List UInt8 × Int × List UInt8)) : o = none ∨ ∃ h p t, o = some (h, p, t) := by
  cases o with
  | none => exact .inl rfl
  | some q => exact .inr ⟨q.1, q.2.1, q.2.2, rfl⟩
theorem prsE_ne (s : List UInt8) : (prsE s == 0) = false := by unfold prsE; split <;> rfl
theorem right103 (h t : List UInt8) (p : Int) (h1 : h.length ≤ 100000) (h2 : t.length ≤ 100000) (p1 : -9223372036854775808 ≤ p) (p2 : p ≤ 9223372036854775807) : PureC Tryz.prog 103 [.agg false (uriP h p t)] (.bool (rgtB h p t)) := by
  refine pure_of_aw (ys := [_]) [] [] [] mixed Tryz.func103 rfl (by kernel_rfl) (by kernel_rfl) (by simp [Tryz.ntmps103]) rfl ?_
  have hp1 := print140g h t p h1 h2 p1 p2
  have hl := prtU_len h t p h1 h2 p2
  have hp2 := parse105 (prtU h p t) (by omega)
  unfold rgtB
  change PureC _ _ _ (.str (prtU h p t)) at hp1
  generalize prtU h p t = S at *
  simp [uriP] at hp1 ⊢
  refine pcall_of hp1 (by simp) ?_
  rcases prs_eta (prsB S) with hq | ⟨h', p', t', hq⟩
  · rw [hq] at hp2
    simp [uP, eOf, uriP] at hp2
    simp
    refine pcall_of hp2 (by simp) ?_
    simp [hq, prsE_ne, Tryz.results103]
  · rw [hq] at hp2
    simp [uP, eOf, uriP] at hp2
    simp
    refine pcall_of hp2 (by simp) ?_
    rw [hq]
    by_cases e1 : h' = h <;> by_cases e2 : p' = p <;> by_cases e3 : t' = t <;> simp [e1, e2, e3, Tryz.results103]
theorem rright112 (h t : List UInt8) (p : Int) (h1 : h.length ≤ 100000) (h2 : t.length ≤ 100000) (p1 : -9223372036854775808 ≤ p) (p2 : p ≤ 9223372036854775807) : PureC Tryz.prog 112 [.agg false (uriP h p t)] (.bool (rgtB h p t)) := by
  refine pure_of_aw (ys := [_]) [] [] [] mixed Tryz.func112 rfl (by kernel_rfl) (by kernel_rfl) (by simp [Tryz.ntmps112]) rfl ?_
  have hp1 := rprint147 h t p h1 h2 p1 p2
  have hl := prtU_len h t p h1 h2 p2
  have hp2 := rparse114 (prtU h p t) (by omega)
  unfold rgtB
  change PureC _ _ _ (.str (prtU h p t)) at hp1
  generalize prtU h p t = S at *
  simp [uriP] at hp1 ⊢
  refine pcall_of hp1 (by simp) ?_
  rcases prs_eta (prsB S) with hq | ⟨h', p', t', hq⟩
  · rw [hq] at hp2
    simp [uP, eOf, uriP] at hp2
    simp
    refine pcall_of hp2 (by simp) ?_
    simp [hq, prsE_ne, Tryz.results112]
  · rw [hq] at hp2
    simp [uP, eOf, uriP] at hp2
    simp
    refine pcall_of hp2 (by simp) ?_
    rw [hq]
    by_cases e1 : h' = h <;> by_cases e2 : p' = p <;> by_cases e3 : t' = t <;> simp [e1, e2, e3, Tryz.results112]
end Go.Av
