/- URIs: where a reference leads; what holds no more; RulesInvalidates computes true. -/
import Derived.Test.YtffoncjofjgojaaGreatDoorZs
set_option linter.all false
/-! part Z182 -/
namespace Go.Av
open Go.Proofs
set_option maxRecDepth 100000
theorem ix_le {c : UInt8} : ∀ (l : List UInt8) (k : Nat), l[k]? = some c → 0 ≤ ixB l c ∧ ixB l c ≤ k
  | [], k, h => by simp at h
  | x :: l, k, h => by
    rw [ixB_cons]
    by_cases e : x = c
    · rw [if_pos e]; omega
    · rw [if_neg e]
      cases k with
      | zero => simp at h; exact absurd h e
      | succ k =>
        have := ix_le l k (by simpa using h)
        rw [if_neg (by omega)]; omega
/-- has a text no scheme? -/
def relB (l : List UInt8) : Bool := decide (ixB l 58 < 0) || decide ((hpl l : Int) < ixB l 58)
theorem rel_yes {l : List UInt8} (h : ∀ k, k < hpl l → l[k]? ≠ some 58) : relB l = true := by
  unfold relB
  by_cases c : ixB l 58 < 0
  · simp [c]
  · have hg : 0 ≤ ixB l 58 := by omega
    have ha := ixB_at l 58 hg
    rw [decide_eq_false c, Bool.false_or, decide_eq_true_eq]
    rcases Nat.lt_or_ge (ixB l 58).toNat (hpl l) with h1 | h1
    · exact absurd ha (h _ h1)
    · rcases Nat.lt_or_ge (hpl l) (ixB l 58).toNat with h2 | h2
      · omega
      · have he : (ixB l 58).toNat = hpl l := by omega
        rw [he] at ha
        rcases hpl_end l with h3 | h3 | h3
        · rw [h3] at ha; simp at ha
        · rw [h3] at ha; simp at ha
        · rw [h3] at ha; simp at ha
theorem rel_no {l : List UInt8} {k : Nat} (h : k < hpl l) (h2 : l[k]? = some 58) : relB l = false := by
  obtain ⟨a, b⟩ := ix_le l k h2
  unfold relB
  rw [decide_eq_false (by omega), decide_eq_false (by omega)]; rfl
set_option maxHeartbeats 2000000 in
theorem relative109 (l : List UInt8) (hl : l.length ≤ 1000000) : PureC Tryz.prog 109 [.str l] (.bool (relB l)) := by
  refine pure_of_aw (ys := [_]) [] [] [] mixed Tryz.func109 rfl (by kernel_rfl) (by kernel_rfl) (by simp [Tryz.ntmps109]) rfl ?_
  have hmin := hpl_min l
  unfold relB
  have i0 := sindex93 l 58
  have i1 := sindex93 l 47
  have i2 := sindex93 l 63
  generalize ixB l 58 = a at *
  obtain ⟨F, F0, F1, F2⟩ : ∃ F : Nat → Int, F 0 = l.length ∧ F 1 = minI l.length (ixB l 47) ∧ F 2 = minI (minI l.length (ixB l 47)) (ixB l 63) := ⟨fun i => if i = 0 then l.length else if i = 1 then minI l.length (ixB l 47) else minI (minI l.length (ixB l 47)) (ixB l 63), rfl, rfl, rfl⟩
  simp
  refine pcall_of i0 (by simp) ?_
  simp
  refine aw_loop0 (fun i : Nat => i ≤ 2) (fun i => [(0, .p (.str l)), (3, .p (.int a)), (4, .p (.int (F i))), (12, .p (.sl [u8P 47, u8P 63])), (13, .p (.int 2)), (14, .p (.int i))]) (fun i => 2 - i) 0 (by omega) (leN_id (by simp [u8P, F0])) ?_
  intro i hi
  have stp : ∀ a b : Int, minI a b = if 0 ≤ b then (if b < a then b else a) else a := fun a b => by unfold minI; split <;> (try split) <;> omega
  rcases (by omega : i = 0 ∨ i = 1 ∨ i = 2) with rfl | rfl | rfl
  · simp [u8P]
    refine pcall_of i1 (by simp) ?_
    rw [stp] at F1
    by_cases c : 0 ≤ ixB l 47
    · rw [if_pos c] at F1
      simp [c, wr1, F0]
      exact ⟨1, by omega, by omega, leN_id (by simp [u8P, F1]; try (split <;> split <;> omega))⟩
    · rw [if_neg c] at F1
      simp [c, wr1]
      exact ⟨1, by omega, by omega, leN_id (by simp [u8P, F1, F0])⟩
  · simp [u8P]
    refine pcall_of i2 (by simp) ?_
    rw [← F1, stp] at F2
    by_cases c : 0 ≤ ixB l 63
    · rw [if_pos c] at F2
      simp [c, wr2]
      exact ⟨2, by omega, by omega, leN_id (by simp [u8P, F2]; try (split <;> split <;> omega))⟩
    · rw [if_neg c] at F2
      simp [c, wr2]
      exact ⟨2, by omega, by omega, leN_id (by simp [u8P, F2])⟩
  · rw [F2, hmin]
    by_cases c1 : a < 0
    · simp [c1, Tryz.results109]
    · by_cases c2 : (hpl l : Int) < a <;> simp [c1, c2, Tryz.results109]
def httC : List UInt8 := [104, 116, 116, 112, 58]
/-- a path without its query -/
def pthB (t : List UInt8) : List UInt8 := (cutB t 63).1
/-- where a reference leads; the error, where there is one -/
def rslB (h : List UInt8) (p : Int) (t ref : List UInt8) : Option (List UInt8 × Int × List UInt8) × Int :=
  if rgtB h p t = false then (none, 2) else if 8000 < ref.length then (none, 12) else if ref = [] then (some (h, p, t), 0) else
  if lowB (ref.take 7) = httpU then (prsB ref, prsE ref) else
  if ref.take 2 = [47, 47] then (prsB (httC ++ ref), prsE (httC ++ ref)) else
  if ref.head? = some 47 then ((plB ref).map fun x => (h, p, x), 10) else
  if ref.head? = some 63 then ((plB (pthB t ++ ref)).map fun x => (h, p, x), 10) else
  if relB ref = false then (none, 10) else ((plB ((pthB t).take (lixB (pthB t) 47 + 1).toNat ++ ref)).map fun x => (h, p, x), 10)
theorem uOf_eq (h : List UInt8) (p : Int) (o : Option (List UInt8)) : uOf h p o = uP (o.map fun x => (h, p, x)) := by cases o <;> rfl
theorem eOf_eq (h : List UInt8) (p e : Int) (o : Option (List UInt8)) : eOf e o = eOf e (o.map fun x => (h, p, x)) := by cases o <;> rfl
theorem uP_ex (o : Option (List UInt8 × Int × List UInt8)) : ∃ a b c, uP o = [.str a, .int b, .str c] := by
  cases o with
  | none => exact ⟨_, _, _, rfl⟩
  | some q => exact ⟨_, _, _, rfl⟩
set_option maxHeartbeats 8000000 in
theorem resolve71 (h t ref : List UInt8) (p : Int) (h1 : h.length ≤ 50000) (h2 : t.length ≤ 50000) (p1 : -9223372036854775808 ≤ p) (p2 : p ≤ 9223372036854775807) (hr : ref.length ≤ 1000000) :
    PureC Tryz.prog 71 [.agg false (uriP h p t), .str ref] (.tp [.agg false (uP (rslB h p t ref).1), .int (eOf (rslB h p t ref).2 (rslB h p t ref).1)]) := by
  have hrg := right103 h t p (by omega) (by omega) p1 p2
  have hb := begins104 ref hr
  have hps := parse105 ref hr
  have hrel := relative109 ref hr
  have hcut := cut100 t 63 (by omega)
  have hp2 := prefix2 ref 47 47
  have hcl := cut_len t 63
  have hlx := last110 (pthB t) 47 (by unfold pthB; omega)
  have hlr := lix_rng (pthB t) 47
  refine pure_of_aw (ys := [_, _]) [] [(19, [(11, .s 1 [])])] [(1, 0)] mixed Tryz.func71 rfl (by kernel_rfl) (by kernel_rfl) (by simp [Tryz.ntmps71]) rfl ?_
  obtain ⟨R, hR⟩ : ∃ R, R = rslB h p t ref := ⟨_, rfl⟩
  rw [← hR]
  unfold rslB at hR
  have hpt : (cutB t 63).1 = pthB t := rfl
  rw [hpt] at hcut hcl
  generalize (cutB t 63).2.1 = c2 at *
  generalize (cutB t 63).2.2 = c3 at *
  have hpl : (pthB t).length ≤ 50000 := by omega
  generalize pthB t = P at *
  simp [uriP] at hrg ⊢
  refine pcall_of hrg (by simp) ?_
  cases hg : rgtB h p t with
  | false =>
    rw [hg, if_pos rfl] at hR
    subst hR
    simp [uP, eOf, uriP, Tryz.results71]
  | true =>
  rw [hg, if_neg (by simp)] at hR
  by_cases h8 : 8000 < ref.length
  · have h8' : (8000 : Int) < (ref.length : Int) := by omega
    rw [if_pos h8] at hR
    subst hR
    simp [h8, h8', uP, eOf, uriP, Tryz.results71]
  have h8' : ¬ (8000 : Int) < (ref.length : Int) := by omega
  rw [if_neg h8] at hR
  by_cases hz : ref = []
  · rw [if_pos hz] at hR
    subst hR
    subst hz
    simp [uP, eOf, uriP, Tryz.results71]
  rw [if_neg hz] at hR
  have hz' : (ref == []) = false := by simpa using hz
  simp [h8, h8', hz, hz']
  refine pcall_of hb (by simp) ?_
  by_cases hh : lowB (ref.take 7) = httpU
  · rw [if_pos hh] at hR
    subst hR
    simp only
    obtain ⟨a, b, c, hu⟩ := uP_ex (prsB ref)
    rw [hu] at hps ⊢
    unfold httpU at hh
    simp [hh]
    refine pcall_of hps (by simp) ?_
    simp [Tryz.results71]
  rw [if_neg hh] at hR
  unfold httpU at hh
  have hpos : 0 < ref.length := List.length_pos_iff.2 hz
  obtain ⟨x, hx0⟩ : ∃ x, ref[0]? = some x := ⟨_, List.getElem?_eq_getElem hpos⟩
  have hgx : ref[0] = x := (List.getElem_eq_iff hpos).2 hx0
  have hhd : ref.head? = some x := by rw [List.head?_eq_getElem?]; exact hx0
  rw [hhd] at hR
  simp [hh]
  refine pcall_of hcut (by simp) ?_
  simp
  refine pcall_of hp2 (by simp) ?_
  by_cases h22 : ref.take 2 = [47, 47]
  · rw [if_pos h22] at hR
    subst hR
    have hps2 := parse105 (httC ++ ref) (by simp [httC]; omega)
    simp only
    obtain ⟨a, b, c, hu⟩ := uP_ex (prsB (httC ++ ref))
    rw [hu] at hps2 ⊢
    simp [h22]
    refine ⟨by omega, ?_⟩
    refine pcall_of hps2 (by simp [httC]) ?_
    simp [Tryz.results71]
  rw [if_neg h22] at hR
  by_cases h47 : x = 47
  · have e47 : ((x.toNat : Int) == 47) = true := by rw [h47]; rfl
    rw [if_pos (by rw [h47])] at hR
    subst hR
    have hpc := placed108g h p t ref (by omega)
    rw [uOf_eq, eOf_eq h p] at hpc
    simp only
    obtain ⟨a, b, c, hu⟩ := uP_ex ((plB ref).map fun x => (h, p, x))
    rw [hu] at hpc ⊢
    simp [uriP] at hpc
    simp [h22, hpos, hgx, e47]
    refine pcall_of hpc (by simp) ?_
    simp [Tryz.results71]
  have e47 : ((x.toNat : Int) == 47) = false := ne_u8 h47
  rw [if_neg (by simpa using h47)] at hR
  by_cases h63 : x = 63
  · have e63 : ((x.toNat : Int) == 63) = true := by rw [h63]; rfl
    rw [if_pos (by rw [h63])] at hR
    subst hR
    have hpc := placed108g h p t (P ++ ref) (by simp; omega)
    rw [uOf_eq, eOf_eq h p] at hpc
    simp only
    obtain ⟨a, b, c, hu⟩ := uP_ex ((plB (P ++ ref)).map fun x => (h, p, x))
    rw [hu] at hpc ⊢
    simp [uriP] at hpc
    simp [h22, hpos, hgx, e47, e63]
    refine ⟨by omega, ?_⟩
    refine pcall_of hpc (by simp) ?_
    simp [Tryz.results71]
  have e63 : ((x.toNat : Int) == 63) = false := ne_u8 h63
  rw [if_neg (by simpa using h63)] at hR
  simp [h22, hpos, hgx, e47, e63]
  refine pcall_of hrel (by simp) ?_
  cases hrl : relB ref with
  | false =>
    rw [hrl, if_pos rfl] at hR
    subst hR
    simp [uP, eOf, uriP, Tryz.results71]
  | true =>
    rw [hrl, if_neg (by simp)] at hR
    subst hR
    have hle : (lixB P 47 + 1).toNat ≤ P.length := by omega
    have hw : IntKind.i64.wrap (lixB P 47 + 1) = lixB P 47 + 1 := wrap64_id (by omega) (by omega)
    have hnn : 0 ≤ lixB P 47 + 1 := by omega
    have hleI : lixB P 47 + 1 ≤ (P.length : Int) := by omega
    have hpc := placed108g h p t (P.take (lixB P 47 + 1).toNat ++ ref) (by simp; omega)
    rw [uOf_eq, eOf_eq h p] at hpc
    have htl : (P.take (lixB P 47 + 1).toNat).length ≤ 50000 := by simp; omega
    simp only
    generalize hq : P.take (lixB P 47 + 1).toNat = Q at *
    obtain ⟨a, b, c, hu⟩ := uP_ex ((plB (Q ++ ref)).map fun x => (h, p, x))
    rw [hu] at hpc ⊢
    simp [uriP] at hpc
    simp
    refine call_of hlx ?_
    simp [hw, hnn, hle, hleI, hq]
    refine ⟨by omega, ?_⟩
    refine call_of hpc ?_
    simp [Tryz.results71]
end Go.Av

/-! part Z183 -/
namespace Go.Av
open Go.Proofs
set_option maxRecDepth 100000
theorem pl_head {s t : List UInt8} (h : plB s = some t) : ∃ r, t = 47 :: r := by
  unfold plB at h
  split at h
  · rename_i a q _ _
    split at h
    · cases h
    · simp only [Option.some.injEq] at h
      have hn : splB 47 ((a.drop 1).count 47) (a.drop 1) ≠ [] := by
        intro e
        have := (spl_absC _ (a.drop 1) rfl).2.2
        rw [e] at this; simp at this
      have := absC_join _ (segF_ne _ [] hn)
      unfold pathB at h
      rw [this] at h
      exact ⟨_, h.symm⟩
  · cases h
theorem rgt_path {h t : List UInt8} {p : Int} (hg : rgtB h p t = true) : ∃ r, pthB t = 47 :: r := by
  unfold rgtB at hg
  have hg := of_decide_eq_true hg
  unfold prsB at hg
  split at hg
  · cases hg
  · split at hg
    · cases hg
    · split at hg
      · cases hg
      · rename_i h' p' _
        cases hp : plB (((prtU h p t).drop 7).drop (hpl ((prtU h p t).drop 7))) with
        | none => rw [hp] at hg; cases hg
        | some x =>
          rw [hp] at hg
          simp only [Option.map_some, Option.some.injEq, Prod.mk.injEq] at hg
          obtain ⟨r, hr⟩ := pl_head hp
          have ht : t = 47 :: r := by rw [← hg.2.2, hr]
          have hx : ixB (47 :: r) 63 = if ixB r 63 < 0 then -1 else ixB r 63 + 1 := by rw [ixB_cons, if_neg (show ¬ (47 : UInt8) = 63 by decide)]
          unfold pthB cutB
          rw [ht, hx]
          by_cases hy : ixB r 63 < 0
          · rw [if_pos hy, if_pos (by omega)]; exact ⟨_, rfl⟩
          · rw [if_neg hy, if_neg (by omega), show (ixB r 63 + 1).toNat = (ixB r 63).toNat + 1 by omega]
            exact ⟨_, rfl⟩
theorem pth_len (t : List UInt8) : (pthB t).length ≤ t.length := (cut_len t 63).1
theorem take2 (l : List UInt8) (x : UInt8) (h : l[0]? = some x) : l.take 2 = [47, 47] ↔ (1 < l.length ∧ x = 47 ∧ l[1]? = some 47) := by
  match l, h with
  | [a], h => simp at h; simp
  | a :: b :: l, h => simp at h; subst h; simp
set_option maxHeartbeats 16000000 in
theorem rresolve73 (h t ref : List UInt8) (p : Int) (h1 : h.length ≤ 50000) (h2 : t.length ≤ 50000) (p1 : -9223372036854775808 ≤ p) (p2 : p ≤ 9223372036854775807) (hr : ref.length ≤ 1000000) :
    PureC Tryz.prog 73 [.agg false (uriP h p t), .str ref] (.tp [.agg false (uP (rslB h p t ref).1), .int (eOf (rslB h p t ref).2 (rslB h p t ref).1)]) := by
  have hrg := rright112 h t p (by omega) (by omega) p1 p2
  have hb := http113 ref hr
  have hps := rparse114 ref hr
  have hpl0 := pth_len t
  refine pure_of_aw (ys := [_, _]) [] [(29, [(12, .s 1 [])])] [(1, 0)] mixed Tryz.func73 rfl (by kernel_rfl) (by kernel_rfl) (by simp [Tryz.ntmps73]) rfl ?_
  obtain ⟨R, hR⟩ : ∃ R, R = rslB h p t ref := ⟨_, rfl⟩
  rw [← hR]
  unfold rslB at hR
  simp [uriP] at hrg ⊢
  refine pcall_of hrg (by simp) ?_
  cases hg : rgtB h p t with
  | false =>
    rw [hg, if_pos rfl] at hR
    subst hR
    simp [uP, eOf, uriP, Tryz.results73]
  | true =>
  rw [hg, if_neg (by simp)] at hR
  obtain ⟨pr, hpr⟩ := rgt_path hg
  by_cases h8 : 8000 < ref.length
  · have h8' : (8000 : Int) < (ref.length : Int) := by omega
    rw [if_pos h8] at hR
    subst hR
    simp [h8, h8', uP, eOf, uriP, Tryz.results73]
  have h8' : ¬ (8000 : Int) < (ref.length : Int) := by omega
  rw [if_neg h8] at hR
  by_cases hz : ref = []
  · rw [if_pos hz] at hR
    subst hR
    subst hz
    simp [uP, eOf, uriP, Tryz.results73]
  rw [if_neg hz] at hR
  have hz' : (ref == []) = false := by simpa using hz
  simp [h8, h8', hz, hz']
  refine pcall_of hb (by simp) ?_
  by_cases hh : lowB (ref.take 7) = httpU
  · rw [if_pos hh] at hR
    subst hR
    simp only
    obtain ⟨a, b, c, hu⟩ := uP_ex (prsB ref)
    rw [hu] at hps ⊢
    simp [hh]
    refine pcall_of hps (by simp) ?_
    simp [Tryz.results73]
  rw [if_neg hh] at hR
  have hpos : 0 < ref.length := List.length_pos_iff.2 hz
  obtain ⟨x, hx0⟩ : ∃ x, ref[0]? = some x := ⟨_, List.getElem?_eq_getElem hpos⟩
  have hgx : ref[0] = x := (List.getElem_eq_iff hpos).2 hx0
  have hhd : ref.head? = some x := by rw [List.head?_eq_getElem?]; exact hx0
  have ht2 := take2 ref x hx0
  rw [hhd] at hR
  by_cases h22 : ref.take 2 = [47, 47]
  · rw [if_pos h22] at hR
    subst hR
    have hps2 := rparse114 (httC ++ ref) (by simp [httC]; omega)
    simp only
    obtain ⟨a, b, c, hu⟩ := uP_ex (prsB (httC ++ ref))
    rw [hu] at hps2 ⊢
    obtain ⟨l1, l2, l3⟩ := ht2.1 h22
    have l1' : (1 : Int) < (ref.length : Int) := by omega
    have e47 : ((x.toNat : Int) == 47) = true := by rw [l2]; rfl
    have hg1 : ref[1] = 47 := (List.getElem_eq_iff l1).2 l3
    simp [hh, l1, l1', hpos, hgx, e47, l3, hg1]
    refine ⟨by omega, ?_⟩
    refine pcall_of hps2 (by simp [httC]) ?_
    simp [Tryz.results73]
  rw [if_neg h22] at hR
  have hgd : (¬ (1 : Int) < (ref.length : Int)) ∨ ((1 : Int) < (ref.length : Int) ∧ ((x.toNat : Int) == 47) = false) ∨ ((1 : Int) < (ref.length : Int) ∧ ((x.toNat : Int) == 47) = true ∧ ∃ y, ref[1]? = some y ∧ ((y.toNat : Int) == 47) = false) := by
    by_cases c1 : 1 < ref.length
    · right
      by_cases c2 : x = 47
      · right
        have hne : ref[1] ≠ 47 := fun e => h22 (ht2.2 ⟨c1, c2, by rw [List.getElem?_eq_getElem c1, e]⟩)
        exact ⟨by omega, by rw [c2]; rfl, ref[1], List.getElem?_eq_getElem c1, ne_u8 hne⟩
      · left; exact ⟨by omega, ne_u8 c2⟩
    · left; omega
  simp [hh]
  rcases hgd with g1 | ⟨g1, g2⟩ | ⟨g1, g2, y, g3, g4⟩
  all_goals
    first
      | (have l1 : 1 < ref.length := by omega
         have hg1 : ref[1] = y := (List.getElem_eq_iff l1).2 g3
         simp [g1, hpos, hgx, g2, l1, g3, hg1, g4]; done)
      | (have l1 : 1 < ref.length := by omega
         have hg1 : ref[1] = y := (List.getElem_eq_iff l1).2 g3
         simp [g1, hpos, hgx, g2, l1, g3, hg1, g4])
      | simp [g1, hpos, hgx, g2]
      | simp [g1]
  all_goals
    refine aw_loop (fun y : Nat × List UInt8 => (y.2 = t ∧ 63 ∉ t.take y.1 ∧ y.1 ≤ t.length) ∨ (y.2 = pthB t ∧ y.2.length < y.1 ∧ y.1 ≤ t.length)) (fun y => [(1, .p (.str ref)), (2, .p (.ref (.agg false [.str h, .int p, .str t]))), (4, .obj 0 0), (5, .p (.int 0)), (6, .p (.str y.2)), (7, .p (.int y.1))])
      (fun _ => ⟨[(0, ⟨54, 3, [.p (.str []), .p (.int 0), .p (.str [])]⟩)], [], 1⟩) (fun y => t.length + 1 - y.1) (0, t) (.inl ⟨rfl, by simp, by simp⟩) _ (AS.le_refl _ _) (leN_id (by simp)) ?_
    rintro ⟨i, w⟩ hI
    simp only at hI
    by_cases ci : i < w.length
    · obtain ⟨rfl, i2, i3⟩ : w = t ∧ 63 ∉ t.take i ∧ i ≤ t.length := by
        rcases hI with hI | ⟨_, h3, _⟩
        · exact hI
        · omega
      have wi : IntKind.i64.wrap ((i : Int) + 1) = ((i + 1 : Nat) : Int) := by rw [wrap64_id (by omega) (by omega)]; rfl
      by_cases e : w[i] = 63
      · have e' : ((w[i].toNat : Int) == 63) = true := by rw [e]; rfl
        have hc := cut_at w i i3 i2 (.inr (by rw [List.getElem?_eq_getElem ci, e]))
        rw [if_neg (by omega)] at hc
        have hpt : pthB w = w.take i := by unfold pthB; rw [hc]
        have hle : i ≤ w.length := i3
        simp [ci, e', wi, hle]
        refine ⟨i + 1, w.take i, .inr ⟨hpt.symm, by simp; omega, by omega⟩, by omega, leN_id (by simp)⟩
      · have e' : ((w[i].toNat : Int) == 63) = false := ne_u8 e
        simp [ci, e', wi]
        refine ⟨i + 1, w, .inl ⟨rfl, ?_, by omega⟩, by omega, leN_id (by simp)⟩
        intro hm
        rw [List.take_succ_eq_append_getElem ci] at hm
        rcases List.mem_append.1 hm with hm | hm
        · exact i2 hm
        · simp at hm; exact e hm.symm
    · have hwP : w = pthB t := by
        rcases hI with ⟨rfl, i2, i3⟩ | hI
        · have hc := cut_at w i i3 i2 (.inl (by omega))
          rw [if_pos (by omega)] at hc
          unfold pthB; rw [hc]
        · exact hI.1
      have ciI : ¬ (i : Int) < (w.length : Int) := by omega
      rw [← hwP] at hR hpr hpl0
      by_cases h47 : x = 47
      · have e47 : ((x.toNat : Int) == 47) = true := by rw [h47]; rfl
        rw [if_pos (by rw [h47])] at hR
        subst hR
        have hpc := rat115 h p ref (by omega)
        rw [uOf_eq, eOf_eq h p] at hpc
        simp only
        obtain ⟨a, b, c, hu⟩ := uP_ex ((plB ref).map fun x => (h, p, x))
        rw [hu] at hpc ⊢
        simp [ci, ciI, hpos, hgx, e47]
        refine pcall_of hpc (by simp) ?_
        simp [Tryz.results73]
      have e47 : ((x.toNat : Int) == 47) = false := ne_u8 h47
      rw [if_neg (by simpa using h47)] at hR
      by_cases h63 : x = 63
      · have e63 : ((x.toNat : Int) == 63) = true := by rw [h63]; rfl
        rw [if_pos (by rw [h63])] at hR
        subst hR
        have hpc := rat115 h p (w ++ ref) (by simp; omega)
        rw [uOf_eq, eOf_eq h p] at hpc
        simp only
        obtain ⟨a, b, c, hu⟩ := uP_ex ((plB (w ++ ref)).map fun x => (h, p, x))
        rw [hu] at hpc ⊢
        simp [ci, ciI, hpos, hgx, e47, e63]
        refine ⟨by omega, ?_⟩
        refine pcall_of hpc (by simp) ?_
        simp [Tryz.results73]
      have e63 : ((x.toNat : Int) == 63) = false := ne_u8 h63
      rw [if_neg (by simpa using h63)] at hR
      simp [ci, ciI, hpos, hgx, e47, e63]
      refine aw_loop (fun k : Nat => k ≤ hpl ref ∧ ∀ j, j < k → ref[j]? ≠ some 58) (fun k => [(1, .p (.str ref)), (2, .p (.ref (.agg false [.str h, .int p, .str t]))), (4, .obj 0 0), (5, .p (.int 0)), (6, .p (.str w)), (8, .p (.int k))])
        (fun _ => ⟨[(0, ⟨54, 3, [.p (.str []), .p (.int 0), .p (.str [])]⟩)], [], 1⟩) (fun k => hpl ref - k) 0 ⟨by omega, by intro j hj; omega⟩ _ (AS.le_refl _ _) (leN_id (by simp)) ?_
      rintro k ⟨k1, k2⟩
      by_cases ck : k < hpl ref
      · obtain ⟨z, z1, z2, z3⟩ := hpl_at ref k ck
        obtain ⟨hlt, hgz⟩ := List.getElem?_eq_some_iff.1 z1
        have n47 : ((z.toNat : Int) != 47) = true := by have := ne_u8 z2; simpa using this
        have n63 : ((z.toNat : Int) != 63) = true := by have := ne_u8 z3; simpa using this
        by_cases z58 : z = 58
        · have e58 : ((z.toNat : Int) == 58) = true := by rw [z58]; rfl
          rw [if_pos (rel_no ck (by rw [z1, z58]))] at hR
          subst hR
          simp [hlt, hgz, n47, n63, e58, uP, eOf, uriP, Tryz.results73]
        · have e58 : ((z.toNat : Int) == 58) = false := ne_u8 z58
          have wk : IntKind.i64.wrap ((k : Int) + 1) = ((k + 1 : Nat) : Int) := by rw [wrap64_id (by omega) (by omega)]; rfl
          simp [hlt, hgz, n47, n63, e58, wk]
          refine ⟨k + 1, ⟨by omega, ?_⟩, by omega, leN_id (by simp)⟩
          intro j hj
          rcases Nat.lt_or_ge j k with h | h
          · exact k2 j h
          · obtain rfl : j = k := by omega
            rw [z1]; simpa using z58
      · obtain rfl : k = hpl ref := by omega
        have hrl := rel_yes k2
        rw [hrl, if_neg (by simp)] at hR
        have hlr := lix_rng w 47
        have hl0 : 0 ≤ lixB w 47 := by
          rw [hpr, lixB]
          split
          · omega
          · simp
        have hwl : 0 < w.length := by rw [hpr]; simp
        have wl0 : IntKind.i64.wrap (w.length : Int) = (w.length : Int) := wrap64_id (by omega) (by omega)
        have loop3 : (¬ hpl ref < ref.length ∧ ¬ (hpl ref : Int) < (ref.length : Int)) ∨ (hpl ref < ref.length ∧ ∃ z, ref[hpl ref]? = some z ∧ (z = 47 ∨ z = 63)) := by
          rcases hpl_end ref with h | h | h
          · left; omega
          · right; obtain ⟨hlt, _⟩ := List.getElem?_eq_some_iff.1 h; exact ⟨hlt, 47, h, .inl rfl⟩
          · right; obtain ⟨hlt, _⟩ := List.getElem?_eq_some_iff.1 h; exact ⟨hlt, 63, h, .inr rfl⟩
        rcases loop3 with ⟨g5, g6⟩ | ⟨g5, z, z1, rfl | rfl⟩
        case inl =>
          simp [g5, g6]
          refine aw_loop (fun k : Nat => 1 ≤ k ∧ k ≤ w.length ∧ lixB w 47 = lixB (w.take k) 47) (fun k => [(1, .p (.str ref)), (2, .p (.ref (.agg false [.str h, .int p, .str t]))), (4, .obj 0 0), (5, .p (.int 0)), (6, .p (.str w)), (9, .p (.int k))])
            (fun _ => ⟨[(0, ⟨54, 3, [.p (.str []), .p (.int 0), .p (.str [])]⟩)], [], 1⟩) (fun k => k) w.length ⟨hwl, by omega, by simp⟩ _ (AS.le_refl _ _) (leN_id (by simp)) ?_
          rintro k ⟨k3, k4, k5⟩
          obtain ⟨j, rfl⟩ : ∃ j, k = j + 1 := ⟨k - 1, by omega⟩
          have hj : j < w.length := by omega
          rw [lix_take w _ j hj] at k5
          have wj : IntKind.i64.wrap (j : Int) = (j : Int) := wrap64_id (by omega) (by omega)
          have ej : (j : Int) + 1 - 1 = (j : Int) := by omega
          by_cases e : w[j] = 47
          · rw [if_pos e] at k5
            have e' : ((w[j].toNat : Int) != 47) = false := by rw [e]; rfl
            have htn : (lixB w 47 + 1).toNat = j + 1 := by omega
            rw [htn] at hR
            subst hR
            have htl : (w.take (j + 1)).length ≤ 50000 := by simp; omega
            have hj1 : j + 1 ≤ w.length := by omega
            have hjI : (j : Int) + 1 ≤ (w.length : Int) := by omega
            have hpc := rat115 h p (w.take (j + 1) ++ ref) (by simp; omega)
            rw [uOf_eq, eOf_eq h p] at hpc
            simp only
            generalize hq : w.take (j + 1) = Q at *
            obtain ⟨a, b, c, hu⟩ := uP_ex ((plB (Q ++ ref)).map fun x => (h, p, x))
            rw [hu] at hpc ⊢
            simp [ej, wj, hj, e', hj1, hjI, hq]
            refine ⟨by omega, by omega, ?_⟩
            refine call_of hpc ?_
            simp [Tryz.results73]
          · rw [if_neg e] at k5
            have e' : ((w[j].toNat : Int) != 47) = true := by have := ne_u8 e; simpa using this
            have hj0 : 1 ≤ j := by
              rcases Nat.eq_zero_or_pos j with h | h
              · subst h; rw [List.take_zero] at k5; simp [lixB] at k5; omega
              · exact h
            simp [ej, wj, hj, e']
            exact ⟨j, ⟨hj0, by omega, k5⟩, by omega, leN_id (by simp)⟩
        all_goals
          obtain ⟨_, hgz⟩ := List.getElem?_eq_some_iff.1 z1
          simp [g5, hgz]
        all_goals
          refine aw_loop (fun k : Nat => 1 ≤ k ∧ k ≤ w.length ∧ lixB w 47 = lixB (w.take k) 47) (fun k => [(1, .p (.str ref)), (2, .p (.ref (.agg false [.str h, .int p, .str t]))), (4, .obj 0 0), (5, .p (.int 0)), (6, .p (.str w)), (9, .p (.int k))])
            (fun _ => ⟨[(0, ⟨54, 3, [.p (.str []), .p (.int 0), .p (.str [])]⟩)], [], 1⟩) (fun k => k) w.length ⟨hwl, by omega, by simp⟩ _ (AS.le_refl _ _) (leN_id (by simp)) ?_
          rintro k ⟨k3, k4, k5⟩
          obtain ⟨j, rfl⟩ : ∃ j, k = j + 1 := ⟨k - 1, by omega⟩
          have hj : j < w.length := by omega
          rw [lix_take w _ j hj] at k5
          have wj : IntKind.i64.wrap (j : Int) = (j : Int) := wrap64_id (by omega) (by omega)
          have ej : (j : Int) + 1 - 1 = (j : Int) := by omega
          by_cases e : w[j] = 47
          · rw [if_pos e] at k5
            have e' : ((w[j].toNat : Int) != 47) = false := by rw [e]; rfl
            have htn : (lixB w 47 + 1).toNat = j + 1 := by omega
            rw [htn] at hR
            subst hR
            have htl : (w.take (j + 1)).length ≤ 50000 := by simp; omega
            have hj1 : j + 1 ≤ w.length := by omega
            have hjI : (j : Int) + 1 ≤ (w.length : Int) := by omega
            have hpc := rat115 h p (w.take (j + 1) ++ ref) (by simp; omega)
            rw [uOf_eq, eOf_eq h p] at hpc
            simp only
            generalize hq : w.take (j + 1) = Q at *
            obtain ⟨a, b, c, hu⟩ := uP_ex ((plB (Q ++ ref)).map fun x => (h, p, x))
            rw [hu] at hpc ⊢
            simp [ej, wj, hj, e', hj1, hjI, hq]
            refine ⟨by omega, by omega, ?_⟩
            refine call_of hpc ?_
            simp [Tryz.results73]
          · rw [if_neg e] at k5
            have e' : ((w[j].toNat : Int) != 47) = true := by have := ne_u8 e; simpa using this
            have hj0 : 1 ≤ j := by
              rcases Nat.eq_zero_or_pos j with h | h
              · subst h; rw [List.take_zero] at k5; simp [lixB] at k5; omega
              · exact h
            simp [ej, wj, hj, e']
            exact ⟨j, ⟨hj0, by omega, k5⟩, by omega, leN_id (by simp)⟩
end Go.Av

/-! part Z184 -/
namespace Go.Av
open Go.Proofs
set_option maxRecDepth 100000
theorem rsl_err (h : List UInt8) (p : Int) (t ref : List UInt8) : (eOf (rslB h p t ref).2 (rslB h p t ref).1 == 0) = (rslB h p t ref).1.isSome := by
  have key : (rslB h p t ref).1 = none → (rslB h p t ref).2 ≠ 0 := by
    unfold rslB
    repeat' split
    all_goals first
      | (intro _; decide)
      | (intro h; cases h; done)
      | (intro _; unfold prsE; split <;> simp)
      | (intro _; simp)
  cases hq : (rslB h p t ref).1 with
  | none =>
    have := key hq
    simpa [eOf] using this
  | some q => rfl
/-- one field's part -/
def invF (u : Uri) (fs : List Fd) (out : List Uri) (n : List UInt8) : List Uri :=
  if (oneB fs n).2 = true then
    match (rslB u.h u.p u.t (oneB fs n).1).1 with
    | some (h, p, t) => if h = u.h ∧ p = u.p ∧ out.any (eqU ⟨h, p, t⟩) = false then out ++ [⟨h, p, t⟩] else out
    | none => out
  else out
def safeL : List (List UInt8) := [[71, 69, 84], [72, 69, 65, 68], [79, 80, 84, 73, 79, 78, 83], [84, 82, 65, 67, 69]]
/-- the URIs of which nothing that is kept holds any more -/
def invL (u : Uri) (m : List UInt8) (r : Msg) : List Uri :=
  if safeL.any (eqP m) = true ∨ r.st < 200 ∨ 399 < r.st then [] else invF u r.fs (invF u r.fs [u] locN) conN
theorem invF_len (u : Uri) (fs : List Fd) (out : List Uri) (n : List UInt8) : (invF u fs out n).length ≤ out.length + 1 := by
  unfold invF
  split
  · split
    · split <;> simp
    · omega
  · omega
structure UOk (u : Uri) : Prop where
  h : u.h.length ≤ 50000
  t : u.t.length ≤ 50000
  p1 : -9223372036854775808 ≤ u.p
  p2 : u.p ≤ 9223372036854775807
set_option maxHeartbeats 8000000 in
theorem invalidates29 (u : Uri) (m : List UInt8) (r : Msg) (hu : UOk u) (hr : FdOk r.fs) (hl : ∀ n, (oneB r.fs n).1.length ≤ 100000) :
    PureC Tryz.prog 29 [urP u, .str m, msP r] (.sl ((invL u m r).map urP)) := by
  have h1 := contains69 safeL m (by decide)
  obtain ⟨uh, up, ut⟩ := u
  have hrs := fun ref hq => resolve71 uh ut ref up hu.h hu.t hu.p1 hu.p2 hq
  have a1 := hu.h
  have a2 := hu.t
  refine pure_of_aw (ys := [_]) [] [] [] mixed Tryz.func29 rfl (by kernel_rfl) (by kernel_rfl) (by simp [Tryz.ntmps29]) rfl ?_
  obtain ⟨R, hR⟩ : ∃ R, R = invL ⟨uh, up, ut⟩ m r := ⟨_, rfl⟩
  rw [← hR]
  unfold invL at hR
  generalize safeL.any (eqP m) = B at *
  simp [safeL] at h1 ⊢
  refine pcall_of h1 (by simp) ?_
  cases B with
  | true => simp at hR; simp [hR, Tryz.results29]
  | false =>
  by_cases s1 : r.st < 200
  · simp [s1] at hR; simp [s1, hR, Tryz.results29]
  by_cases s2 : 399 < r.st
  · simp [s2] at hR; simp [s1, s2, hR, Tryz.results29]
  simp [s1, s2] at hR
  simp [s1, s2]
  obtain ⟨O, O0, O1, O2, OS⟩ : ∃ O : Nat → List Uri, O 0 = [⟨uh, up, ut⟩] ∧ O 2 = R ∧ (∀ i, (O i).length ≤ 1 + i) ∧ (∀ i, i < 2 → O (i + 1) = invF ⟨uh, up, ut⟩ r.fs (O i) (if i = 0 then locN else conN)) := by
    refine ⟨fun i => if i = 0 then [⟨uh, up, ut⟩] else if i = 1 then invF ⟨uh, up, ut⟩ r.fs [⟨uh, up, ut⟩] locN else R, rfl, rfl, ?_, ?_⟩
    · intro i
      have l1 := invF_len ⟨uh, up, ut⟩ r.fs [⟨uh, up, ut⟩] locN
      have l2 := invF_len ⟨uh, up, ut⟩ r.fs (invF ⟨uh, up, ut⟩ r.fs [⟨uh, up, ut⟩] locN) conN
      simp only [List.length_cons, List.length_nil] at l1
      simp only
      split
      · simp
      · split
        · omega
        · rw [hR]; omega
    · intro i hi
      rcases (by omega : i = 0 ∨ i = 1) with rfl | rfl
      · rfl
      · exact hR
  clear hR
  refine aw_loop (fun i : Nat => i ≤ 2) (fun i => [(3, .p (.ref (.agg false [.str uh, .int up, .str ut]))), (5, .p (.ref (msP r))), (7, .own 0 ((O i).map urP)), (31, .full [.str locN, .str conN]), (32, .p (.int 2)), (33, .p (.int i))])
    (fun i => ⟨[], [(0, 54, 3)], 1⟩) (fun i => 2 - i) 0 (by omega) _ (le_own 7 54 3 [.agg false [.str uh, .int up, .str ut]] (.inl (by simp))) (leN_id (by simp [locN, conN, O0])) ?_
  intro i hi
  have hol := O2 i
  rcases Nat.lt_or_ge i 2 with ci | ci
  case inr =>
    obtain rfl : i = 2 := by omega
    rw [O1]
    simp [Tryz.results29]
  have hstep := OS i ci
  have hon := one70 r.fs (if i = 0 then locN else conN) hr (by split <;> decide)
  have hll := hl (if i = 0 then locN else conN)
  have hci : (i : Int) < 2 := by omega
  have wi : IntKind.i64.wrap ((i : Int) + 1) = ((i + 1 : Nat) : Int) := by rw [wrap64_id (by omega) (by omega)]; rfl
  have hget : [PC.str locN, PC.str conN][i]? = some (.str (if i = 0 then locN else conN)) := by
    rcases (by omega : i = 0 ∨ i = 1) with rfl | rfl <;> rfl
  generalize (if i = 0 then locN else conN) = n at *
  unfold invF at hstep
  generalize oneB r.fs n = q at *
  obtain ⟨ref, ok⟩ := q
  have hrr := hrs ref (by simp at hll; omega)
  have herr := rsl_err uh up ut ref
  simp only at hstep
  generalize rslB uh up ut ref = RS at *
  obtain ⟨rs, re⟩ := RS
  simp only at hstep hrr herr
  have hgi : [PC.str locN, PC.str conN][i]'ci = .str n := (List.getElem_eq_iff ci).2 hget
  simp [hci, hgi, ci]
  refine pcall_of hon (by simp) ?_
  simp
  have hst0 : rs = none ∨ ok = false → O (i + 1) = O i := fun h => by
    rw [hstep]
    rcases h with h | h
    · subst h; cases ok <;> rfl
    · subst h; rfl
  rcases prs_eta rs with hq | ⟨h', p', t', hq⟩
  · subst hq
    have he := hst0 (.inl rfl)
    simp [eOf] at herr
    have herr' : (re == 0) = false := by simpa using herr
    simp [uP, eOf, uriP] at hrr
    refine pcall_of hrr (by simp) ?_
    cases ok with
    | false =>
      simp [wi]
      exact ⟨i + 1, by omega, by omega, leN_id (by simp [he])⟩
    | true =>
      simp [herr', wi]
      exact ⟨i + 1, by omega, by omega, leN_id (by simp [he])⟩
  · subst hq
    simp [uP, eOf, uriP] at hrr
    refine pcall_of hrr (by simp) ?_
    cases ok with
    | false =>
      have he := hst0 (.inr rfl)
      simp [wi]
      exact ⟨i + 1, by omega, by omega, leN_id (by simp [he])⟩
    | true =>
      simp only [if_true] at hstep
      by_cases e1 : h' = uh
      case neg =>
        have e1' : (h' == uh) = false := by simpa using e1
        rw [if_neg (by simp [e1])] at hstep
        simp [e1, e1', wi]
        exact ⟨i + 1, by omega, by omega, leN_id (by simp [hstep])⟩
      have e1' : (h' == uh) = true := by simpa using e1
      by_cases e2 : p' = up
      case neg =>
        have e2' : (p' == up) = false := by simpa using e2
        rw [if_neg (by simp [e2])] at hstep
        simp [e1, e1', e2, e2', wi]
        exact ⟨i + 1, by omega, by omega, leN_id (by simp [hstep])⟩
      have e2' : (p' == up) = true := by simpa using e2
      have h72 := contains72 (O i) ⟨h', p', t'⟩ (by omega)
      simp [e1, e1', e2, e2']
      rw [e1, e2] at h72 hstep
      cases ha : (O i).any (eqU ⟨uh, up, t'⟩) with
      | true =>
        rw [ha] at h72 hstep
        simp at hstep
        refine pcall_of h72 (by simp) ?_
        simp [wi]
        exact ⟨i + 1, by omega, by omega, leN_id (by simp [hstep])⟩
      | false =>
        rw [ha] at h72 hstep
        simp at hstep
        refine pcall_of h72 (by simp) ?_
        simp [wi]
        exact ⟨by omega, by omega, i + 1, by omega, by omega, leN_of [(0, 2)] (by simp [hstep])⟩
end Go.Av

/-! part Z185 -/
namespace Go.Av
open Go.Proofs
set_option maxRecDepth 100000
theorem eqU_comm (v x : Uri) : eqU v x = eqU x v := by unfold eqU; exact decide_eq_decide.2 eq_comm
theorem eqU_bits2 (v x : Uri) : (x.h == v.h && (x.p == v.p && x.t == v.t)) = eqU v x := by rw [eqU_bits, eqU_comm]
set_option maxHeartbeats 16000000 in
theorem rinval30 (u : Uri) (m : List UInt8) (r : Msg) (hu : UOk u) (hr : FdOk r.fs) (hl : ∀ n, (oneB r.fs n).1.length ≤ 100000) :
    PureC Tryz.prog 30 [urP u, .str m, msP r] (.sl ((invL u m r).map urP)) := by
  obtain ⟨uh, up, ut⟩ := u
  have hrs := fun ref hq => rresolve73 uh ut ref up hu.h hu.t hu.p1 hu.p2 hq
  have a1 := hu.h
  have a2 := hu.t
  refine pure_of_aw (ys := [_]) [] [(16, [(6, .r 1)])] [(1, 1)] mixed Tryz.func30 rfl (by kernel_rfl) (by kernel_rfl) (by simp [Tryz.ntmps30]) rfl ?_
  obtain ⟨R, hR⟩ : ∃ R, R = invL ⟨uh, up, ut⟩ m r := ⟨_, rfl⟩
  rw [← hR]
  unfold invL at hR
  have hsafe : safeL.any (eqP m) = (m == [71, 69, 84] || (m == [72, 69, 65, 68] || (m == [79, 80, 84, 73, 79, 78, 83] || m == [84, 82, 65, 67, 69]))) := by
    have hb : ∀ a : List UInt8, (m == a) = decide (m = a) := fun a => by by_cases h : m = a <;> simp [h]
    simp only [safeL, List.any_cons, List.any_nil, Bool.or_false, eqP, hb]
    simp only [eq_comm]
  rw [hsafe] at hR
  simp
  cases d1 : (m == [71, 69, 84]) with
  | true => rw [d1] at hR; simp at hR; simp [hR, Tryz.results30]
  | false =>
  cases d2 : (m == [72, 69, 65, 68]) with
  | true => rw [d1, d2] at hR; simp at hR; simp [d2, hR, Tryz.results30]
  | false =>
  cases d3 : (m == [79, 80, 84, 73, 79, 78, 83]) with
  | true => rw [d1, d2, d3] at hR; simp at hR; simp [d2, d3, hR, Tryz.results30]
  | false =>
  cases d4 : (m == [84, 82, 65, 67, 69]) with
  | true => rw [d1, d2, d3, d4] at hR; simp at hR; simp [d2, d3, d4, hR, Tryz.results30]
  | false =>
  rw [d1, d2, d3, d4] at hR
  by_cases s1 : r.st < 200
  · simp [s1] at hR; simp [d2, d3, d4, s1, hR, Tryz.results30]
  by_cases s2 : 399 < r.st
  · have s3 : 400 ≤ r.st := by omega
    simp [s2] at hR; simp [d2, d3, d4, s1, s3, hR, Tryz.results30]
  have s3 : ¬ 400 ≤ r.st := by omega
  simp [s1, s2] at hR
  simp [d2, d3, d4, s1, s3]
  obtain ⟨O, O0, O1, O2, OS⟩ : ∃ O : Nat → List Uri, O 0 = [⟨uh, up, ut⟩] ∧ O 2 = R ∧ (∀ i, (O i).length ≤ 1 + i) ∧ (∀ i, i < 2 → O (i + 1) = invF ⟨uh, up, ut⟩ r.fs (O i) (if i = 0 then locN else conN)) := by
    refine ⟨fun i => if i = 0 then [⟨uh, up, ut⟩] else if i = 1 then invF ⟨uh, up, ut⟩ r.fs [⟨uh, up, ut⟩] locN else R, rfl, rfl, ?_, ?_⟩
    · intro i
      have l1 := invF_len ⟨uh, up, ut⟩ r.fs [⟨uh, up, ut⟩] locN
      have l2 := invF_len ⟨uh, up, ut⟩ r.fs (invF ⟨uh, up, ut⟩ r.fs [⟨uh, up, ut⟩] locN) conN
      simp only [List.length_cons, List.length_nil] at l1
      simp only
      split
      · simp
      · split
        · omega
        · rw [hR]; omega
    · intro i hi
      rcases (by omega : i = 0 ∨ i = 1) with rfl | rfl
      · rfl
      · exact hR
  clear hR
  refine aw_loop (fun i : Nat => i ≤ 2) (fun i => [(3, .p (.ref (.agg false [.str uh, .int up, .str ut]))), (5, .p (.ref (msP r))), (7, .own 0 ((O i).map urP)), (8, .full [.str locN, .str conN]), (9, .p (.int i))])
    (fun i => ⟨[], [(0, 54, 3)], 1⟩) (fun i => 2 - i) 0 (by omega) _ (le_own 7 54 3 [.agg false [.str uh, .int up, .str ut]] (.inl (by simp))) (leN_id (by simp [locN, conN, O0])) ?_
  intro i hi
  have hol := O2 i
  rcases Nat.lt_or_ge i 2 with ci | ci
  case inr =>
    obtain rfl : i = 2 := by omega
    rw [O1]
    simp [Tryz.results30]
  have hstep := OS i ci
  have hon := rone47 r (if i = 0 then locN else conN) hr (by split <;> decide)
  have hll := hl (if i = 0 then locN else conN)
  have hci : (i : Int) < 2 := by omega
  have wi : IntKind.i64.wrap ((i : Int) + 1) = ((i + 1 : Nat) : Int) := by rw [wrap64_id (by omega) (by omega)]; rfl
  have hget : [PC.str locN, PC.str conN][i]? = some (.str (if i = 0 then locN else conN)) := by
    rcases (by omega : i = 0 ∨ i = 1) with rfl | rfl <;> rfl
  generalize (if i = 0 then locN else conN) = n at *
  unfold invF at hstep
  generalize oneB r.fs n = q at *
  obtain ⟨ref, ok⟩ := q
  have hrr := hrs ref (by simp at hll; omega)
  have herr := rsl_err uh up ut ref
  simp only at hstep
  generalize rslB uh up ut ref = RS at *
  obtain ⟨rs, re⟩ := RS
  simp only at hstep hrr herr
  have hgi : [PC.str locN, PC.str conN][i]'ci = .str n := (List.getElem_eq_iff ci).2 hget
  simp [hci, hgi, ci]
  refine call_of hon ?_
  simp
  cases ok with
  | false =>
    simp at hstep
    simp [wi]
    exact ⟨i + 1, by omega, by omega, leN_id (by simp [hstep])⟩
  | true =>
  simp only [if_true] at hstep
  simp
  rcases prs_eta rs with hq | ⟨h', p', t', hq⟩
  · subst hq
    simp [eOf] at herr
    have herr' : (re != 0) = true := by simpa using herr
    simp [uP, eOf, uriP] at hrr
    refine pcall_of hrr (by simp) ?_
    simp at hstep
    simp [herr', wi]
    exact ⟨i + 1, by omega, by omega, leN_id (by simp [hstep])⟩
  · subst hq
    simp [uP, eOf, uriP] at hrr
    refine pcall_of hrr (by simp) ?_
    simp only at hstep
    by_cases e1 : h' = uh
    case neg =>
      have e1' : (h' != uh) = true := by simpa using e1
      rw [if_neg (by simp [e1])] at hstep
      simp [e1, e1', wi]
      exact ⟨i + 1, by omega, by omega, leN_id (by simp [hstep])⟩
    have e1' : (h' != uh) = false := by simpa using e1
    by_cases e2 : p' = up
    case neg =>
      have e2' : (p' != up) = true := by simpa using e2
      rw [if_neg (by simp [e2])] at hstep
      simp [e1, e1', e2, e2', wi]
      exact ⟨i + 1, by omega, by omega, leN_id (by simp [hstep])⟩
    have e2' : (p' != up) = false := by simpa using e2
    subst e1
    subst e2
    simp only [true_and] at hstep
    simp
    generalize hOi : O i = Oi at *
    refine aw_loop (fun k : Nat => k ≤ Oi.length) (fun k => [(3, .p (.ref (.agg false [.str h', .int p', .str ut]))), (5, .p (.ref (msP r))), (7, .own 0 (Oi.map urP)), (8, .full [.str locN, .str conN]), (9, .p (.int i)), (12, .obj 1 0), (14, .p (.bool ((Oi.take k).any (eqU ⟨h', p', t'⟩)))), (15, .p (.int k))])
      (fun _ => ⟨[(1, ⟨54, 3, [.p (.str h'), .p (.int p'), .p (.str t')]⟩)], [(0, 54, 3)], 2⟩) (fun k => Oi.length - k) 0 (by omega) _ (AS.le_refl _ _) (leN_id (by simp)) ?_
    intro k hk
    rcases Nat.lt_or_ge k Oi.length with ck | ck
    · have wk : IntKind.i64.wrap ((k : Int) + 1) = ((k + 1 : Nat) : Int) := by rw [wrap64_id (by omega) (by omega)]; rfl
      have htk : (Oi.take (k + 1)).any (eqU ⟨h', p', t'⟩) = ((Oi.take k).any (eqU ⟨h', p', t'⟩) || eqU ⟨h', p', t'⟩ Oi[k]) := by
        rw [List.take_succ_eq_append_getElem ck, List.any_append]; simp
      have hbits := eqU_bits2 ⟨h', p', t'⟩ Oi[k]
      simp only at hbits
      cases hf : (Oi.take k).any (eqU ⟨h', p', t'⟩) with
      | true =>
        rw [hf, Bool.true_or] at htk
        simp [ck, wk]
        exact ⟨k + 1, by omega, by omega, leN_id (by simp only [htk]; simp)⟩
      | false =>
        rw [hf, Bool.false_or] at htk
        simp [ck, wk, hbits]
        exact ⟨k + 1, by omega, by omega, leN_id (by simp only [htk]; simp)⟩
    · obtain rfl : k = Oi.length := by omega
      have hta : (Oi.take Oi.length).any (eqU ⟨h', p', t'⟩) = Oi.any (eqU ⟨h', p', t'⟩) := by rw [List.take_length]
      cases ha : Oi.any (eqU ⟨h', p', t'⟩) with
      | true =>
        rw [ha] at hta hstep
        simp at hstep
        simp only [hta]
        simp [wi]
        exact ⟨i + 1, by omega, by omega, leN_id (by simp [hstep])⟩
      | false =>
        rw [ha] at hta hstep
        simp at hstep
        simp only [hta]
        simp [wi]
        exact ⟨by omega, by omega, i + 1, by omega, by omega, leN_of [(0, 2)] (by simp [hstep])⟩
end Go.Av

/-! part Z186 -/
namespace Go.Av
open Go.Proofs
set_option maxRecDepth 100000
def gohB (m : List UInt8) : Bool := m == [71, 69, 84] || m == [72, 69, 65, 68]
set_option maxHeartbeats 4000000 in
theorem unchanged31g (D : List UInt8 → Int × Int) (q k : Msg) (hq : FdOk q.fs) (hk : FdOk k.fs) (hD1 : DFor D q.fs imsN) (hD2 : DFor D k.fs lamN) : PureC Tryz.prog 31 [msP q, msP k] (.bool (gohB q.m && unchB D q k)) := by
  have h1 := get107 q.fs inmN hq (by decide)
  have h2 := one70 k.fs tagN hk (by decide)
  have h3 := split_get q.fs inmN hq
  have h4 := anyf65 74 [.ref (.bool (oneB k.fs tagN).2), .ref (.str (oneB k.fs tagN).1)] (sameP (oneB k.fs tagN).2 (oneB k.fs tagN).1) (splitB (getB q.fs inmN)) (split_cnt q.fs inmN hq) (fun s _ => unch74 _ _ s)
  have h5 := moment76 D q imsN hq (by decide) hD1
  have h6 := moment76 D k lamN hk (by decide) hD2
  have hgl := getB_len q.fs inmN
  have hql := hq.1
  unfold unchB gohB
  generalize (splitB (getB q.fs inmN)).any (sameP (oneB k.fs tagN).2 (oneB k.fs tagN).1) = A at *
  generalize splitB (getB q.fs inmN) = S at *
  generalize getB q.fs inmN = G at *
  generalize oneB k.fs tagN = p at *
  generalize momB D q.fs imsN = r1 at *
  generalize momB D k.fs lamN = r2 at *
  obtain ⟨p1, p2⟩ := p
  obtain ⟨u1, u2⟩ := r1
  obtain ⟨v1, v2⟩ := r2
  refine pure_of_aw (ys := [_]) [] [] [] mixed Tryz.func31 rfl (by kernel_rfl) (by kernel_rfl) (by simp [Tryz.ntmps31]) rfl ?_
  by_cases hs : k.st = 200
  case neg =>
    have d : (k.st != 200) = true := by simpa using hs
    simp [d, hs, Tryz.results31]
  have d : (k.st != 200) = false := by simpa using hs
  obtain ⟨g, hg⟩ : ∃ g, g = (q.m == [71, 69, 84]) := ⟨_, rfl⟩
  obtain ⟨h, hh⟩ : ∃ h, h = (q.m == [72, 69, 65, 68]) := ⟨_, rfl⟩
  have hgn : (q.m != [71, 69, 84]) = !g := by rw [hg]; rfl
  have hhn : (q.m != [72, 69, 65, 68]) = !h := by rw [hh]; rfl
  rw [← hg, ← hh]
  cases g <;> cases h
  · simp [d, hgn, hhn, hs, Tryz.results31]
  all_goals
    simp [d, hgn, hhn]
    refine pcall_of h1 (by simp [inmN]) ?_
    cases G with
    | nil =>
      simp
      refine pcall_of h5 (by simp [imsN]) ?_
      simp
      refine pcall_of h6 (by simp [lamN]) ?_
      simp [hs]
      cases u2 <;> cases v2 <;> simp [Tryz.results31]
    | cons a G =>
      have dd : (0 : Int) < (G.length : Int) + 1 := by omega
      simp [dd]
      refine pcall_of h2 (by simp [tagN]) ?_
      simp
      refine pcall_of h3 (by simp) ?_
      simp
      refine bcall_of0 h4 ⟨⟨_, rfl, .inl rfl⟩, ⟨rfl, ⟨_, _, rfl, rfl, rfl, ⟨_, rfl, .inl rfl⟩⟩, ⟨_, _, rfl, rfl, rfl, ⟨_, rfl, .inl rfl⟩⟩, trivial⟩, trivial⟩ rfl ?_
      simp [hs, Tryz.results31]
set_option maxHeartbeats 4000000 in
theorem runch32 (q k : Msg) (hq : FdOk q.fs) (hk : FdOk k.fs) (hlq : (oneB q.fs imsN).1.length ≤ 100000) (hlk : (oneB k.fs lamN).1.length ≤ 100000) : PureC Tryz.prog 32 [msP q, msP k] (.bool (gohB q.m && unchB parseD q k)) := by
  have h0 := has40 q inmN hq (by decide)
  have h1 := rget108 q.fs inmN hq (by decide)
  have h2 := rone47 k tagN hk (by decide)
  have h3 := rsplit_get q.fs inmN hq
  have hcnt := split_cnt q.fs inmN hq
  have h5 := rmoment78 q imsN hq (by decide) hlq
  have h6 := rmoment78 k lamN hk (by decide) hlk
  have hgl := getB_len q.fs inmN
  have hql := hq.1
  refine pure_of_aw (ys := [_]) [] [] [] mixed Tryz.func32 rfl (by kernel_rfl) (by kernel_rfl) (by simp [Tryz.ntmps32]) rfl ?_
  obtain ⟨R, hR⟩ : ∃ R, R = (gohB q.m && unchB parseD q k) := ⟨_, rfl⟩
  rw [← hR]
  unfold unchB gohB at hR
  unfold hasN at h0
  generalize splitB (getB q.fs inmN) = S at *
  generalize getB q.fs inmN = G at *
  generalize oneB k.fs tagN = p at *
  generalize momB parseD q.fs imsN = r1 at *
  generalize momB parseD k.fs lamN = r2 at *
  obtain ⟨p1, p2⟩ := p
  obtain ⟨u1, u2⟩ := r1
  obtain ⟨v1, v2⟩ := r2
  by_cases hs : k.st = 200
  case neg =>
    have d : (k.st != 200) = true := by simpa using hs
    simp [hs] at hR
    simp [d, hs, hR, Tryz.results32]
  have d : (k.st != 200) = false := by simpa using hs
  rw [if_neg (by simp [hs])] at hR
  obtain ⟨g, hg⟩ : ∃ g, g = (q.m == [71, 69, 84]) := ⟨_, rfl⟩
  obtain ⟨h, hh⟩ : ∃ h, h = (q.m == [72, 69, 65, 68]) := ⟨_, rfl⟩
  have hgn : (q.m != [71, 69, 84]) = !g := by rw [hg]; rfl
  have hhn : (q.m != [72, 69, 65, 68]) = !h := by rw [hh]; rfl
  rw [← hg, ← hh] at hR
  cases g <;> cases h
  · simp at hR
    simp [d, hgn, hhn, hR, Tryz.results32]
  all_goals
    simp only [Bool.true_or, Bool.or_true, Bool.true_and] at hR
    simp [d, hgn, hhn]
    refine pcall_of h0 (by simp [inmN]) ?_
    cases G with
    | nil =>
      simp at hR
      simp
      refine pcall_of h5 (by simp [imsN]) ?_
      simp
      refine pcall_of h6 (by simp [lamN]) ?_
      cases u2 <;> cases v2 <;> simp [hR, Tryz.results32]
    | cons a G =>
      rw [if_pos (by simp)] at hR
      simp
      refine pcall_of h1 (by simp [inmN]) ?_
      simp
      refine pcall_of h3 (by simp) ?_
      simp
      refine pcall_of h2 (by simp [tagN]) ?_
      simp
      refine aw_loop0 (fun i : Nat => i ≤ S.length ∧ R = (S.drop i).any (sameP p2 p1)) (fun i => [(5, .p (.sl (S.map PC.str))), (6, .p (.str p1)), (7, .p (.bool p2)), (8, .p (.int i))]) (fun i => S.length - i) 0 ⟨by omega, by simpa using hR⟩ (leN_id (by simp)) ?_
      rintro i ⟨g1, g2⟩
      by_cases c : i < S.length
      · rw [List.drop_eq_getElem_cons c, List.any_cons] at g2
        have wi : IntKind.i64.wrap ((i : Int) + 1) = ((i + 1 : Nat) : Int) := by rw [wrap64_id (by omega) (by omega)]; rfl
        by_cases e : S[i] = [42]
        · have e1 : sameP p2 p1 S[i] = true := by unfold sameP; simp [e]
          rw [e1, Bool.true_or] at g2
          simp [c, e, g2, Tryz.results32]
        · have e2 : (S[i] == [42]) = false := by simpa using e
          have e1 : sameP p2 p1 S[i] = (p2 && alikB S[i] p1) := by unfold sameP; simp [e]
          rw [e1] at g2
          cases p2 with
          | false =>
            simp only [Bool.false_and, Bool.false_or] at g2
            simp [c, e2, wi]
            exact ⟨i + 1, ⟨by omega, g2⟩, by omega, leN_id (by simp)⟩
          | true =>
            simp only [Bool.true_and] at g2
            simp [c, e2]
            refine pcall_of (bare77 S[i]) (by simp) ?_
            simp
            refine pcall_of (bare77 p1) (by simp) ?_
            unfold alikB at g2
            by_cases eb : bareB S[i] = bareB p1
            · rw [decide_eq_true eb, Bool.true_or] at g2
              simp [eb, g2, Tryz.results32]
            · rw [decide_eq_false eb, Bool.false_or] at g2
              have eb' : (bareB S[i] == bareB p1) = false := by simpa using eb
              simp [eb, eb', wi]
              exact ⟨i + 1, ⟨by omega, g2⟩, by omega, leN_id (by simp)⟩
      · rw [List.drop_eq_nil_of_le (by omega)] at g2
        simp at g2
        simp [c, g2, Tryz.results32]
end Go.Av

/-! part Z187 -/
namespace Go.Av
open Go.Proofs
set_option maxRecDepth 100000
set_option maxHeartbeats 8000000 in
theorem law8 (u : Uri) (q r : Msg) (hh : u.h.length ≤ 9223372036854775807) (ht : u.t.length ≤ 9223372036854775807) (p1 : -9223372036854775808 ≤ u.p) (p2 : u.p ≤ 9223372036854775807) (hq : lenOk q) (hr : lenOk r) : PureC Tryz.prog 8 [urP u, msP q, msP r] (.bool true) := by
  have hsh := short22 [q, r] (by simp) (by simp [hq, hr])
  simp only [List.map_cons, List.map_nil, List.all_cons, List.all_nil, Bool.and_true] at hsh
  obtain ⟨uh, up, ut⟩ := u
  simp only at hh ht p1 p2
  refine pure_of_aw (ys := [_]) [] [] [] mixed Tryz.func8 rfl (by kernel_rfl) (by kernel_rfl) (by simp [Tryz.ntmps8]) rfl ?_
  simp
  refine pcall_of awake21 (by simp) ?_
  simp
  refine pcall_of hsh (by simp) ?_
  cases hb : (shrM q && shrM r) with
  | false =>
    simp
    refine pcall_of awake21 (by simp) ?_
    simp [Tryz.results8]
  | true =>
  by_cases l1 : 300 < uh.length
  · have l1' : (300 : Int) < (uh.length : Int) := by omega
    simp [l1, l1']
    refine pcall_of awake21 (by simp) ?_
    simp [Tryz.results8]
  have l1' : ¬ (300 : Int) < (uh.length : Int) := by omega
  by_cases l2 : 1000 < ut.length
  · have l2' : (1000 : Int) < (ut.length : Int) := by omega
    simp [l1, l1', l2, l2']
    refine pcall_of awake21 (by simp) ?_
    simp [Tryz.results8]
  have l2' : ¬ (1000 : Int) < (ut.length : Int) := by omega
  obtain ⟨b1, b2⟩ := Bool.and_eq_true_iff.1 hb
  obtain ⟨q1, q2⟩ := shr_ok b1
  obtain ⟨r1, r2⟩ := shr_ok b2
  have hq0 := fd_ok2 (by omega) q2
  have hr0 := fd_ok2 (by omega) r2
  have huo : UOk ⟨uh, up, ut⟩ := ⟨by simp; omega, by simp; omega, p1, p2⟩
  have hI := invalidates29 ⟨uh, up, ut⟩ q.m r huo hr0 (fun n => by have := one_len r2 n; omega)
  have hI' := rinval30 ⟨uh, up, ut⟩ q.m r huo hr0 (fun n => by have := one_len r2 n; omega)
  have hU := unchanged31g parseD q r hq0 hr0 (fun _ => Parse117 _ (by have := one_len q2 imsN; omega)) (parse_Fs2 r2).lam
  have hU' := runch32 q r hq0 hr0 (by have := one_len q2 imsN; omega) (by have := one_len r2 lamN; omega)
  have hLl : (invL ⟨uh, up, ut⟩ q.m r).length ≤ 3 := by
    unfold invL
    split
    · simp
    · have h1 := invF_len ⟨uh, up, ut⟩ r.fs [⟨uh, up, ut⟩] locN
      have h2 := invF_len ⟨uh, up, ut⟩ r.fs (invF ⟨uh, up, ut⟩ r.fs [⟨uh, up, ut⟩] locN) conN
      simp at h1; omega
  generalize invL ⟨uh, up, ut⟩ q.m r = L at *
  generalize (gohB q.m && unchB parseD q r) = U at *
  simp [l1, l1', l2, l2']
  refine call_of hI ?_
  simp
  refine call_of hI' ?_
  simp
  refine aw_loop0 (fun i : Nat => i ≤ L.length) (fun i => [(4, .p (.ref (msP q))), (5, .p (.ref (msP r))), (7, .p (.sl (L.map urP))), (8, .p (.sl (L.map urP))), (9, .p (.int i))]) (fun i => L.length - i) 0 (by omega) (leN_id (by simp)) ?_
  intro i hi
  by_cases c : i < L.length
  · have wi : IntKind.i64.wrap ((i : Int) + 1) = ((i + 1 : Nat) : Int) := by rw [wrap64_id (by omega) (by omega)]; rfl
    simp [c, wi]
    exact ⟨i + 1, by omega, by omega, leN_id (by simp)⟩
  · obtain rfl : i = L.length := by omega
    simp
    refine call_of hU ?_
    simp
    refine call_of hU' ?_
    simp [Tryz.results8]
end Go.Av

/-! part Z188 -/
namespace Go.Av
open Go.Proofs
theorem cellsT54 : Tryz.prog.cellsOf 54 = 3 := by kernel_rfl
def uriS (x : PC) : Prop := ∃ u : Uri, x = urP u ∧ u.h.length ≤ 9223372036854775807 ∧ i64b u.p ∧ u.t.length ≤ 9223372036854775807
theorem rd54 : RdV Tryz.prog 54 uriS :=
  rv_struct Tryz.underlying54 ((rd_struct (Ss := [_, _, _]) Tryz.underlying54 (by rw [cellsT54]; simp [totF, cellsT3, cellsT9]) ⟨rfl, (rd_string Tryz.underlying9).c, (by simp [cellsT9]), rdI.c, (by simp [cellsT3, cellsT9]), (rd_string Tryz.underlying9).c, trivial⟩).mono (by
    rintro x ⟨ys, rfl, h⟩
    obtain ⟨_, ys1, rfl, ⟨a, rfl, w1⟩, h1⟩ := all2_c h
    obtain ⟨_, ys2, rfl, ⟨p, rfl, w2⟩, h2⟩ := all2_c h1
    obtain ⟨_, rfl, b, rfl, w3⟩ := all2_1 h2
    simp only [maxLen] at w1 w3
    exact ⟨⟨a, p, b⟩, rfl, by simpa using w1, w2, by simpa using w3⟩)) (by rintro x ⟨u, rfl, _⟩; exact ⟨_, rfl⟩)
theorem law8n {x y z : PC} (hx : uriS x) (hy : msgS y) (hz : msgS z) : PureC Tryz.prog 8 [x, y, z] (.bool true) := by
  obtain ⟨u, rfl, u1, u2, u3⟩ := hx
  obtain ⟨q, rfl, h1⟩ := hy
  obtain ⟨r, rfl, h2⟩ := hz
  exact law8 u q r u1 u3 u2.1 u2.2 ⟨h1.fs, h1.b⟩ ⟨h2.fs, h2.b⟩
end Go.Av
