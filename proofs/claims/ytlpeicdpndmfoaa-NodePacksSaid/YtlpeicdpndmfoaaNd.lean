/- What a right node is, where a key belongs in it, what Split and Merge compute. -/
import Derived.Test.YtlpeicdpndmfoaaNc
set_option linter.all false
/-! part N17r -/
namespace Go.Av
open Go.Proofs

def kB (ks : List (List UInt8)) (j : Nat) : Bool := decide (1 ≤ (ks.getD j []).length) && decide ((ks.getD j []).length ≤ 100) && (j == 0 || Op.bytesLess (ks.getD (j - 1) []) (ks.getD j []))
def vB (v : Int) : Bool := decide (0 ≤ v) && decide (v < 1099511627776)
def rightB (l : Bool) (ks : List (List UInt8)) (vs : List Int) : Bool :=
  decide (ks.length ≤ 4) && fmd l ks vs && (l || decide (0 < ks.length)) && ((List.range ks.length).all (kB ks)) && vs.all vB

theorem right_k {l : Bool} {ks : List (List UInt8)} {vs : List Int} {k : Nat} (hk : k < ks.length) (h : kB ks k = false) : rightB l ks vs = false := by
  have : (List.range ks.length).all (kB ks) = false := by rw [List.all_eq_false]; exact ⟨k, by simpa using hk, by simp [h]⟩
  simp [rightB, this]
theorem right_v {l : Bool} {ks : List (List UInt8)} {vs : List Int} {k : Nat} (hk : k < vs.length) (h : vB vs[k] = false) : rightB l ks vs = false := by
  have : vs.all vB = false := by rw [List.all_eq_false]; exact ⟨vs[k], by simp, by simp [h]⟩
  simp [rightB, this]

set_option maxHeartbeats 1000000 in
theorem right21 (l : Bool) (ks : List (List UInt8)) (vs : List Int) (hv : vs.length ≤ 9223372036854775807) (hs : ∀ s ∈ ks, s.length ≤ 9223372036854775807) : PureC Try.prog 21 [nodeP l ks vs] (.bool (rightB l ks vs)) := by
  refine pure_of_aw (ys := [_]) [] [] [] mixed Try.func21 rfl (by kernel_rfl) (by kernel_rfl) (by simp [Try.ntmps21]) rfl ?_
  simp
  by_cases h1 : 4 < (ks.length : Int)
  · have : ¬ ks.length ≤ 4 := by omega
    simp [h1, rightB, this, Try.results21]
  · have k1 : ks.length ≤ 4 := by omega
    simp [h1]
    refine pcall_of (formed25 l ks vs (by omega)) (by simp) ?_
    cases h2 : fmd l ks vs with
    | false => simp [rightB, h2, Try.results21]
    | true =>
      simp
      cases l
      · simp
        by_cases h3 : ks.length = 0
        · simp [h3, Try.results21, rightB]
        have h4 : ((ks.length : Int) == 0) = false := by simp; intro e; subst e; simp at h3
        simp [h4]
        refine aw_loop0 (fun k : Nat => k ≤ ks.length ∧ ∀ j, j < k → kB ks j = true) (fun k => [(1, .p (.ref (nodeP false ks vs))), (3, .p (.int k))]) (fun k => ks.length - k) 0 (by simp) (leN_id (by simp)) ?_
        rintro k ⟨j1, j2⟩
        by_cases c1 : k < ks.length
        · have hl := hs ks[k] (by simp)
          simp [c1]
          by_cases b1 : (ks[k].length : Int) < 1
          · have r := right_k (l := false) (vs := vs) c1 (by simp [kB, c1]; omega)
            simp [b1, r, Try.results21]
          · simp [b1, c1]
            by_cases b2 : 100 < (ks[k].length : Int)
            · have r := right_k (l := false) (vs := vs) c1 (by simp [kB, c1]; omega)
              simp [b2, r, Try.results21]
            · simp [b2]
              cases k with
              | zero =>
                simp
                refine ⟨1, ⟨by omega, ?_⟩, by omega, leN_id ?_⟩
                · intro j hj; obtain rfl : j = 0 := by omega
                  simp [kB, c1]; omega
                · simp [wrap64_id]
              | succ m =>
                have hm : m < ks.length := by omega
                have w1 : IntKind.i64.wrap (m : Int) = (m : Int) := wrap64_id (by omega) (by omega)
                have hl' := hs ks[m] (by simp)
                have p1 : (0 : Int) < (m : Int) + 1 := by omega
                have p2 : (0 : Int) ≤ (m : Int) + 1 := by omega
                simp [w1, hm, c1, ↓p1, p2]
                refine call_of (less_p _ _ hl' hl) ?_
                by_cases c2 : Op.bytesLess ks[m] ks[m + 1] = true
                · simp [c2]
                  refine ⟨m + 2, ⟨by omega, ?_⟩, by omega, leN_id ?_⟩
                  · intro j hj
                    by_cases hj' : j < m + 1
                    · exact j2 j hj'
                    · obtain rfl : j = m + 1 := by omega
                      simp [kB, c1, hm, c2]; omega
                  · simp [wrap64_id (n := (m : Int) + 1 + 1) (by omega) (by omega)]; omega
                · have r := right_k (l := false) (vs := vs) c1 (by simp [kB, c1, hm, c2])
                  simp [c2, r, Try.results21]
        · have hall : ((List.range ks.length).all (kB ks)) = true := by
            rw [List.all_eq_true]; intro j hj; exact j2 j (by simp at hj; omega)
          simp [c1]
          refine aw_loop0 (fun k : Nat => k ≤ vs.length ∧ ∀ x ∈ vs.take k, vB x = true) (fun k => [(1, .p (.ref (nodeP false ks vs))), (4, .p (.int k))]) (fun k => vs.length - k) 0 (by simp) (leN_id (by simp)) ?_
          rintro k ⟨j1, j2⟩
          by_cases c1 : k < vs.length
          · simp [c1]
            by_cases b1 : vs[k] < 0
            · have r := right_v (l := false) (ks := ks) c1 (by simp [vB]; omega)
              simp [b1, r, Try.results21]
            · simp [b1, c1]
              by_cases b2 : 1099511627776 ≤ vs[k]
              · have r := right_v (l := false) (ks := ks) c1 (by simp [vB]; omega)
                simp [b2, r, Try.results21]
              · simp [b2]
                refine ⟨k + 1, ⟨by omega, ?_⟩, by omega, leN_id ?_⟩
                · rw [List.take_succ_eq_append_getElem c1]; simp only [List.mem_append, List.mem_singleton]; rintro x (hx | rfl); exact j2 x hx; simp [vB]; omega
                · simp [wrap64_id (n := (k : Int) + 1) (by omega) (by omega)]
          · have hall2 : vs.all vB = true := by
              rw [List.all_eq_true]; intro x hx; exact j2 x (by rw [List.take_of_length_le (by omega)]; exact hx)
            have r : rightB false ks vs = true := by simp only [rightB, h2, hall, hall2, decide_eq_true k1]; simp; omega
            simp [c1, r, Try.results21]
      · simp
        refine aw_loop0 (fun k : Nat => k ≤ ks.length ∧ ∀ j, j < k → kB ks j = true) (fun k => [(1, .p (.ref (nodeP true ks vs))), (3, .p (.int k))]) (fun k => ks.length - k) 0 (by simp) (leN_id (by simp)) ?_
        rintro k ⟨j1, j2⟩
        by_cases c1 : k < ks.length
        · have hl := hs ks[k] (by simp)
          simp [c1]
          by_cases b1 : (ks[k].length : Int) < 1
          · have r := right_k (l := true) (vs := vs) c1 (by simp [kB, c1]; omega)
            simp [b1, r, Try.results21]
          · simp [b1, c1]
            by_cases b2 : 100 < (ks[k].length : Int)
            · have r := right_k (l := true) (vs := vs) c1 (by simp [kB, c1]; omega)
              simp [b2, r, Try.results21]
            · simp [b2]
              cases k with
              | zero =>
                simp
                refine ⟨1, ⟨by omega, ?_⟩, by omega, leN_id ?_⟩
                · intro j hj; obtain rfl : j = 0 := by omega
                  simp [kB, c1]; omega
                · simp [wrap64_id]
              | succ m =>
                have hm : m < ks.length := by omega
                have w1 : IntKind.i64.wrap (m : Int) = (m : Int) := wrap64_id (by omega) (by omega)
                have hl' := hs ks[m] (by simp)
                have p1 : (0 : Int) < (m : Int) + 1 := by omega
                have p2 : (0 : Int) ≤ (m : Int) + 1 := by omega
                simp [w1, hm, c1, ↓p1, p2]
                refine call_of (less_p _ _ hl' hl) ?_
                by_cases c2 : Op.bytesLess ks[m] ks[m + 1] = true
                · simp [c2]
                  refine ⟨m + 2, ⟨by omega, ?_⟩, by omega, leN_id ?_⟩
                  · intro j hj
                    by_cases hj' : j < m + 1
                    · exact j2 j hj'
                    · obtain rfl : j = m + 1 := by omega
                      simp [kB, c1, hm, c2]; omega
                  · simp [wrap64_id (n := (m : Int) + 1 + 1) (by omega) (by omega)]; omega
                · have r := right_k (l := true) (vs := vs) c1 (by simp [kB, c1, hm, c2])
                  simp [c2, r, Try.results21]
        · have hall : ((List.range ks.length).all (kB ks)) = true := by
            rw [List.all_eq_true]; intro j hj; exact j2 j (by simp at hj; omega)
          simp [c1]
          refine aw_loop0 (fun k : Nat => k ≤ vs.length ∧ ∀ x ∈ vs.take k, vB x = true) (fun k => [(1, .p (.ref (nodeP true ks vs))), (4, .p (.int k))]) (fun k => vs.length - k) 0 (by simp) (leN_id (by simp)) ?_
          rintro k ⟨j1, j2⟩
          by_cases c1 : k < vs.length
          · simp [c1]
            by_cases b1 : vs[k] < 0
            · have r := right_v (l := true) (ks := ks) c1 (by simp [vB]; omega)
              simp [b1, r, Try.results21]
            · simp [b1, c1]
              by_cases b2 : 1099511627776 ≤ vs[k]
              · have r := right_v (l := true) (ks := ks) c1 (by simp [vB]; omega)
                simp [b2, r, Try.results21]
              · simp [b2]
                refine ⟨k + 1, ⟨by omega, ?_⟩, by omega, leN_id ?_⟩
                · rw [List.take_succ_eq_append_getElem c1]; simp only [List.mem_append, List.mem_singleton]; rintro x (hx | rfl); exact j2 x hx; simp [vB]; omega
                · simp [wrap64_id (n := (k : Int) + 1) (by omega) (by omega)]
          · have hall2 : vs.all vB = true := by
              rw [List.all_eq_true]; intro x hx; exact j2 x (by rw [List.take_of_length_le (by omega)]; exact hx)
            have r : rightB true ks vs = true := by simp only [rightB, h2, hall, hall2, decide_eq_true k1]; rfl
            simp [c1, r, Try.results21]
end Go.Av

/-! part N17s -/
namespace Go.Av
open Go.Proofs

theorem bl_irrefl : ∀ a : List UInt8, Op.bytesLess a a = false
  | [] => rfl
  | x :: a => by
    have h2 : ¬ x < x := fun k => by have : x.toNat < x.toNat := k; omega
    simp [Op.bytesLess, h2, bl_irrefl a]
theorem bl_trans : ∀ {a b c : List UInt8}, Op.bytesLess a b = true → Op.bytesLess b c = true → Op.bytesLess a c = true
  | _, [], _, h, _ => by simp [Op.bytesLess] at h
  | _, _ :: _, [], _, h => by simp [Op.bytesLess] at h
  | [], _ :: _, _ :: _, _, _ => rfl
  | x :: a, y :: b, z :: c, h, k => by
    simp only [Op.bytesLess, Bool.or_eq_true, decide_eq_true_eq, Bool.and_eq_true, beq_iff_eq] at h k ⊢
    have lt_iff : ∀ p q : UInt8, p < q ↔ p.toNat < q.toNat := fun p q => Iff.rfl
    simp only [lt_iff] at h k ⊢
    rcases h with h | ⟨h, h'⟩
    · rcases k with k | ⟨k, k'⟩
      · exact .inl (by omega)
      · subst k; exact .inl h
    · subst h
      rcases k with k | ⟨k, k'⟩
      · exact .inl k
      · subst k; exact .inr ⟨rfl, bl_trans h' k'⟩
theorem bl_asymm {a b : List UInt8} (h : Op.bytesLess a b = true) : Op.bytesLess b a = false := by
  cases k : Op.bytesLess b a with
  | false => rfl
  | true => have := bl_trans h k; rw [bl_irrefl] at this; cases this

/-- each below the next -/
def chn : List (List UInt8) → Prop
  | [] => True
  | [_] => True
  | a :: b :: l => Op.bytesLess a b = true ∧ chn (b :: l)
theorem chn_of : ∀ {l : List (List UInt8)}, (∀ i (h : i + 1 < l.length), Op.bytesLess l[i] l[i + 1] = true) → chn l
  | [], _ => trivial
  | [_], _ => trivial
  | a :: b :: l, h => ⟨h 0 (by simp), chn_of fun i hi => h (i + 1) (by simpa using hi)⟩
theorem chn_at : ∀ {l : List (List UInt8)}, chn l → ∀ i (h : i + 1 < l.length), Op.bytesLess l[i] l[i + 1] = true
  | [], _, i, h => by simp at h
  | [_], _, i, h => by simp at h
  | a :: b :: l, ⟨h1, h2⟩, 0, _ => h1
  | a :: b :: l, ⟨h1, h2⟩, i + 1, h => chn_at h2 i (by simpa using h)
theorem chn_ins {key : List UInt8} {B : List (List UInt8)} (hB : ∀ b, B.head? = some b → Op.bytesLess key b = true) : ∀ {A : List (List UInt8)}, chn (A ++ B) → (∀ a ∈ A, Op.bytesLess a key = true) → chn (A ++ key :: B)
  | [], h, _ => by
    cases B with
    | nil => trivial
    | cons b B => exact ⟨hB b rfl, h⟩
  | [a], h, hA => by
    cases B with
    | nil => exact ⟨hA a (by simp), trivial⟩
    | cons b B => exact ⟨hA a (by simp), hB b rfl, h.2⟩
  | a :: a' :: A, h, hA => ⟨h.1, chn_ins hB (A := a' :: A) h.2 fun x hx => hA x (by simp at hx ⊢; exact .inr hx)⟩

theorem below_take (p : List UInt8 → Bool) : ∀ (ks : List (List UInt8)), ∀ x ∈ ks.take (below p ks), p x = true
  | [], x, h => by simp at h
  | a :: ks, x, h => by
    unfold below at h
    simp only [List.takeWhile_cons] at h
    split at h
    · rename_i ha
      simp only [List.length_cons, List.take_succ_cons, List.mem_cons] at h
      rcases h with rfl | h
      · exact ha
      · exact below_take p ks x h
    · simp at h
theorem below_stop (p : List UInt8 → Bool) : ∀ (ks : List (List UInt8)) (h : below p ks < ks.length), p ks[below p ks] = false
  | [], h => by simp at h
  | a :: ks, h => by
    by_cases ha : p a = true
    · have e : below p (a :: ks) = below p ks + 1 := by simp [below, ha]
      have h' : below p ks < ks.length := by rw [e] at h; simpa using h
      have := below_stop p ks h'
      simp only [e, List.getElem_cons_succ]; exact this
    · have e : below p (a :: ks) = 0 := by simp [below, ha]
      simp only [e, List.getElem_cons_zero]; simpa using ha

theorem right_chn {l : Bool} {ks : List (List UInt8)} {vs : List Int} (h : rightB l ks vs = true) : chn ks ∧ ks.length ≤ 4 ∧ fmd l ks vs = true ∧ (∀ s ∈ ks, s.length ≤ 100) := by
  simp only [rightB, Bool.and_eq_true, decide_eq_true_eq, List.all_eq_true, List.mem_range] at h
  obtain ⟨⟨⟨⟨h1, h2⟩, _⟩, h4⟩, _⟩ := h
  refine ⟨chn_of fun i hi => ?_, h1, h2, fun s hs => ?_⟩
  · have := h4 (i + 1) hi
    simp only [kB, Bool.and_eq_true, Bool.or_eq_true] at this
    have := this.2
    have e1 : i < ks.length := by omega
    simpa [hi, e1] using this
  · obtain ⟨i, hi, rfl⟩ := List.getElem_of_mem hs
    have := h4 i hi
    simp [kB, hi] at this
    exact this.1.2
end Go.Av

/-! part N17t -/
namespace Go.Av
open Go.Proofs

/-- what the key's place is, of keys that rise -/
structure Place (ks : List (List UInt8)) (key : List UInt8) (k : Nat) : Prop where
  le : k ≤ ks.length
  lo : ∀ x ∈ ks.take k, Op.bytesLess x key = true
  hi : ∀ (h : k < ks.length), Op.bytesLess ks[k] key = false
theorem place (ks : List (List UInt8)) (key : List UInt8) : Place ks key (below (fun s => Op.bytesLess s key) ks) :=
  ⟨below_le _ _, below_take _ ks, below_stop _ ks⟩

theorem child_of {ks : List (List UInt8)} {key : List UInt8} {k : Nat} (hc : chn ks) (hp : Place ks key k) (hk : k < ks.length) (he : ks[k] = key) : below (fun s => !Op.bytesLess key s) ks = k + 1 := by
  refine below_of ?_ (by omega) ?_
  · intro x hx
    rw [List.take_succ_eq_append_getElem hk] at hx
    simp only [List.mem_append, List.mem_singleton] at hx
    rcases hx with hx | rfl
    · simp [bl_asymm (hp.lo x hx)]
    · simp [he, bl_irrefl]
  · intro h
    have := chn_at hc k h
    rw [he] at this
    simp [this]

theorem ins_chn {ks : List (List UInt8)} {key : List UInt8} {k : Nat} (hc : chn ks) (hp : Place ks key k) (hn : (ks[k]? == some key) = false) : chn (ks.take k ++ key :: ks.drop k) := by
  refine chn_ins (fun b hb => ?_) (by rw [List.take_append_drop]; exact hc) hp.lo
  rw [List.head?_drop] at hb
  have hk : k < ks.length := (List.getElem?_eq_some_iff.1 hb).1
  have e : ks[k] = b := (List.getElem?_eq_some_iff.1 hb).2
  have h1 := hp.hi hk
  rw [e] at h1
  rw [less_tri b key, h1]
  have : b ≠ key := by rintro rfl; rw [hb] at hn; simp at hn
  simpa using this
theorem ins_place {ks : List (List UInt8)} {key : List UInt8} {k : Nat} (hp : Place ks key k) : below (fun s => Op.bytesLess s key) (ks.take k ++ key :: ks.drop k) = k := by
  have hle := hp.le
  have hl : (ks.take k).length = k := by simp; omega
  refine below_of ?_ (by simp; omega) ?_
  · intro x hx
    rw [List.take_append_of_le_length (by omega), List.take_of_length_le (by omega)] at hx
    exact hp.lo x hx
  · intro h
    rw [List.getElem_append_right (by omega)]
    simp [hl, bl_irrefl]

theorem unins {α : Type} (L : List α) (x : α) (k : Nat) (h : k ≤ L.length) : (L.take k ++ x :: L.drop k).take k ++ (L.take k ++ x :: L.drop k).drop (k + 1) = L := by
  have hl : (L.take k).length = k := by simp; omega
  rw [List.take_append_of_le_length (by omega), List.take_of_length_le (by omega), List.drop_append, List.drop_eq_nil_of_le (by omega), hl, show k + 1 - k = 1 by omega]
  simp

set_option maxHeartbeats 2000000 in
theorem law5 (l : Bool) (ks : List (List UInt8)) (vs : List Int) (key : List UInt8) (val : Int) (hv : vs.length ≤ 9223372036854775807) (hs : ∀ s ∈ ks, s.length ≤ 9223372036854775807) : PureC Try.prog 5 [nodeP l ks vs, .str key, .int val] (.bool true) := by
  refine pure_of_aw (ys := [_]) [] [(11, [(1, .r 1), (7, .r 1)]), (13, [(8, .r 1), (18, .r 1), (26, .r 1)])] [(1, 0)] mixed Try.func5 rfl (by kernel_rfl) (by kernel_rfl) (by simp [Try.ntmps5]) rfl ?_
  simp
  refine pcall_of awake9 (by simp) ?_
  simp
  refine pcall_of (right21 l ks vs hv hs) (by simp) ?_
  cases hr : rightB l ks vs with
  | false =>
    simp
    refine pcall_of awake9 (by simp) ?_
    simp [Try.results5]
  | true =>
    simp
    obtain ⟨hc, k4, hf, k100⟩ := right_chn hr
    cases l
    · simp
      refine pcall_of awake9 (by simp) ?_
      simp [Try.results5]
    · simp
      by_cases h3 : 300 < (key.length : Int)
      · simp [h3]
        refine pcall_of awake9 (by simp) ?_
        simp [Try.results5]
      · simp [h3]
        have hp := place ks key
        have hfl : vs.length = ks.length := by simpa [fmd] using hf
        have c1 := find11 true ks vs key (by omega)
        simp only [findR] at c1
        generalize below (fun s => Op.bytesLess s key) ks = k at hp c1
        refine pcall_of c1 (by simp) ?_
        have hkl := hp.le
        by_cases h4 : (ks[k]? == some key) = true
        · have hk : k < ks.length := by
            have := eq_of_beq h4
            exact (List.getElem?_eq_some_iff.1 this).1
          have he : ks[k] = key := by
            have := eq_of_beq h4
            exact (List.getElem?_eq_some_iff.1 this).2
          have hch := child_of hc hp hk he
          have w1 : IntKind.i64.wrap ((k : Int) + 1) = ((k + 1 : Nat) : Int) := by rw [wrap64_id (by omega) (by omega)]; rfl
          simp [hk, he]
          refine pcall_of (child13 true ks vs key (by omega)) (by simp) ?_
          simp [hch, w1, Try.results5]
        · have h4' : (ks[k]? == some key) = false := by simpa using h4
          simp [h4']
          have hok : insOk true ks vs (k : Int) = true := by simp [insOk, hf, hkl]
          have c2 := insert16 true ks vs (k : Int) key [val] (by omega) (by omega) (by simp)
          have e1 : insKs true ks vs (k : Int) key = ks.take k ++ key :: ks.drop k := by simp [insKs, hok]
          have e2 : insVs true ks vs (k : Int) [val] = vs.take k ++ val :: vs.drop k := by simp [insVs, hok]
          rw [e1, e2] at c2
          have hchn := ins_chn hc hp h4'
          have hpl := ins_place hp
          generalize hK : ks.take k ++ key :: ks.drop k = K at c2 hchn hpl
          generalize hV : vs.take k ++ val :: vs.drop k = V at c2
          have lK : K.length = ks.length + 1 := by rw [← hK]; simp; omega
          have lV : V.length = vs.length + 1 := by rw [← hV]; simp; omega
          have gK : K[k]? = some key := by
            rw [← hK, List.getElem?_append_right (by simp; omega)]; simp [hkl]
          have gV : V[k]? = some val := by
            rw [← hV, List.getElem?_append_right (by simp; omega)]; simp; rw [show k - min k vs.length = 0 by omega]; rfl
          have sK : ∀ s ∈ K, s.length ≤ 9223372036854775807 := by
            intro s h; rw [← hK] at h; simp only [List.mem_append, List.mem_cons] at h
            rcases h with h | rfl | h
            · exact hs s (List.mem_of_mem_take h)
            · omega
            · exact hs s (List.mem_of_mem_drop h)
          refine pcall_of c2 (by simp) ?_
          simp
          have c3 := find11 true K V key (by omega)
          rw [findR, hpl, gK] at c3
          refine pcall_of c3 (by simp) ?_
          simp
          refine aw_loop (fun i : Nat => i + 1 ≤ K.length) (fun i => [(3, .p (.ref (nodeP true ks vs))), (1, .p (.str key)), (2, .p (.int val)), (7, .p (.int k)), (9, .obj 0 0), (10, .p (.int k)), (11, .p (.bool true)), (12, .p (.int (i + 1)))])
            (fun _ => ⟨[(0, ⟨25, 3, [.p (.bool true), .p (.sl (K.map PC.str)), .p (.sl (V.map PC.int))]⟩)], [], 1⟩) (fun i => K.length - i) 0 (by omega) _ (AS.le_refl _ _) (leN_id (by simp)) ?_
          intro i hi
          have w0 : IntKind.i64.wrap (i : Int) = (i : Int) := wrap64_id (by omega) (by omega)
          have hiK : i < K.length := by omega
          by_cases d1 : i + 1 < K.length
          · have d1' : (i : Int) + 1 < (K.length : Int) := by omega
            have p2 : (0 : Int) ≤ (i : Int) + 1 := by omega
            have hl := chn_at hchn i d1
            have t1 : ((i : Int) + 1).toNat = i + 1 := by omega
            simp [d1, d1', w0, hiK, p2, t1]
            refine call_of (less_p _ _ (sK _ (by simp)) (sK _ (by simp))) ?_
            simp [hl]
            refine ⟨i + 1, by omega, by omega, leN_id ?_⟩
            simp [wrap64_id (n := (i : Int) + 1 + 1) (by omega) (by omega)]
          · have d1' : ¬ (i : Int) + 1 < (K.length : Int) := by omega
            have hok2 : remOk true K V (k : Int) = true := by simp [remOk, fmd, lK, lV, hfl]; omega
            have c5 := remove17 true K V (k : Int) (by omega) (by omega)
            have f1 : remKs true K V (k : Int) = ks := by
              simp only [remKs, hok2, if_true, Int.toNat_natCast]
              rw [← hK]; exact unins ks key k hkl
            have f2 : remVs true K V (k : Int) = vs := by
              simp only [remVs, hok2, if_true, Int.toNat_natCast, Nat.add_zero]
              rw [← hV]; exact unins vs val k (by omega)
            rw [f1, f2] at c5
            have w2 : IntKind.i64.wrap ((vs.length : Int) + 1) = (V.length : Int) := by rw [wrap64_id (by omega) (by omega)]; omega
            have kV : k < V.length := by omega
            have gV' : V[k] = val := by rw [List.getElem?_eq_getElem kV] at gV; simpa using gV
            simp [d1', w2, kV, gV']
            refine call_of c5 ?_
            simp
            refine call_of (same18 true ks vs true ks vs (by omega) (by omega)) ?_
            simp [Try.results5]
end Go.Av

/-! part N17u -/
namespace Go.Av
open Go.Proofs
def nodeB (x : PC) : Prop := ∃ l ks vs, x = nodeP l ks vs ∧ vs.length ≤ 9223372036854775807 ∧ ∀ s ∈ ks, s.length ≤ 9223372036854775807
theorem strs_ofB {xs : List PC} (h : ∀ x ∈ xs, ∃ s : List UInt8, x = .str s ∧ s.length ≤ maxLen) : ∃ ks : List (List UInt8), xs = ks.map PC.str ∧ ∀ s ∈ ks, s.length ≤ maxLen := by
  induction xs with
  | nil => exact ⟨[], rfl, by simp⟩
  | cons x xs ih =>
    obtain ⟨ks, rfl, hk⟩ := ih fun y hy => h y (by simp [hy])
    obtain ⟨s, rfl, hs⟩ := h x (by simp)
    refine ⟨s :: ks, rfl, fun t ht => ?_⟩
    rcases List.mem_cons.1 ht with rfl | ht
    · exact hs
    · exact hk t ht
theorem maxLen_lt : maxLen ≤ 9223372036854775807 := by decide +kernel
theorem rd25b : RdV Try.prog 25 nodeB := by
  refine rv_struct Try.underlying25 ((rd_struct (Ss := [_, _, _]) Try.underlying25 (by rw [cellsT25]; simp [totF, cellsT4, cellsT22, cellsT23])
    ⟨rfl, (rd_bool Try.underlying4).c, (by simp [cellsT4]), rd_slice Try.underlying22 (by rw [cellsT9]; omega) (rd_string Try.underlying9), (by simp [cellsT4, cellsT22]), rd_slice Try.underlying23 (by rw [cellsT3]; omega) (rd_int Try.underlying3), trivial⟩).mono ?_) ?_
  · rintro x ⟨ys, rfl, h⟩
    match ys, h with
    | [a, b, c], ⟨⟨l, ha⟩, ⟨ks, hb, _, hk⟩, ⟨vs, hc, hcl, hv⟩, _⟩ =>
      obtain ⟨ks', rfl, hks⟩ := strs_ofB hk
      obtain ⟨vs', rfl⟩ := ints_of hv
      subst ha; subst hb; subst hc
      refine ⟨l, ks', vs', rfl, ?_, fun s hs => ?_⟩
      · rw [List.length_map] at hcl; exact Nat.le_trans hcl maxLen_lt
      · exact Nat.le_trans (hks s hs) maxLen_lt
    | [], h => exact h.elim
    | [_], h => exact h.2.elim
    | [_, _], h => exact h.2.2.elim
    | _ :: _ :: _ :: _ :: _, h => exact h.2.2.2.elim
  · rintro x ⟨l, ks, vs, rfl, _⟩; exact ⟨_, rfl⟩
theorem law5n {x y z : PC} (hx : nodeB x) (hy : strS y) (hz : intS z) : PureC Try.prog 5 [x, y, z] (.bool true) := by
  obtain ⟨l, ks, vs, rfl, h1, h2⟩ := hx
  obtain ⟨s, rfl⟩ := hy
  obtain ⟨n, rfl, _⟩ := hz
  exact law5 l ks vs s n h1 h2
end Go.Av

/-! part N17w -/
namespace Go.Av
open Go.Proofs

theorem bor_view {bx : List (Nat × Ob)} {a n : Nat} {c : Option Nat} {e : TypeId} {L : List PC} (ha : lk a bx = some ⟨e, 1, (L.flatMap pcs).map .p⟩) (hn : n = L.length) (hw : ∀ x ∈ L, x.width = 1) (ht : ∀ x ∈ L, noTup x = true) :
    borF bx 4 (.view a 0 n 1 c) (.sl L) := by
  subst hn
  have hl : (L.flatMap pcs).length = L.length := by have := pcsl_len (s := 1) hw; omega
  refine ⟨_, ha, by omega, rfl, by simp [hl], ?_, hw, ht⟩
  simp only [Nat.zero_mul, List.drop_zero, Nat.mul_one, flat_pcs]
  exact List.take_of_length_le (by simp [hl])

theorem concat45p (L : List (List PC)) (hw : ∀ l ∈ L, ∀ x ∈ l, x.width = 1) (ht : ∀ l ∈ L, ∀ x ∈ l, noTup x = true) (hb : (L.map List.length).sum ≤ 1000000000000) (hb2 : L.length ≤ 1000000000000) :
    PureC Try.prog 45 [.sl (L.map .sl)] (.sl L.flatten) :=
  pure_of_gen (xs := [_]) (concat45 0 L hw ht hb hb2) (bor_view (e := 9) (by simp) (by simp [List.length_flatten]) (fun x h => by obtain ⟨l, h1, h2⟩ := List.mem_flatten.1 h; exact hw l h1 x h2) (fun x h => by obtain ⟨l, h1, h2⟩ := List.mem_flatten.1 h; exact ht l h1 x h2))
theorem concat46p (L : List (List PC)) (hw : ∀ l ∈ L, ∀ x ∈ l, x.width = 1) (ht : ∀ l ∈ L, ∀ x ∈ l, noTup x = true) (hb : (L.map List.length).sum ≤ 1000000000000) (hb2 : L.length ≤ 1000000000000) :
    PureC Try.prog 46 [.sl (L.map .sl)] (.sl L.flatten) :=
  pure_of_gen (xs := [_]) (concat46 0 L hw ht hb hb2) (bor_view (e := 3) (by simp) (by simp [List.length_flatten]) (fun x h => by obtain ⟨l, h1, h2⟩ := List.mem_flatten.1 h; exact hw l h1 x h2) (fun x h => by obtain ⟨l, h1, h2⟩ := List.mem_flatten.1 h; exact ht l h1 x h2))

theorem part44p (l : Bool) (ks : List (List UInt8)) (vs : List Int) (k m u v : Nat) (h1 : k ≤ m) (h2 : m ≤ ks.length) (h3 : u ≤ v) (h4 : v ≤ vs.length) (h5 : ks.length ≤ 1000000000000) (h6 : vs.length ≤ 1000000000000) :
    PureC Try.prog 44 [nodeP l ks vs, .int k, .int m, .int u, .int v] (nodeP l ((ks.take m).drop k) ((vs.take v).drop u)) :=
  pure_of_gen (xs := [_, _, _, _, _]) (part44 0 l ks vs k m u v h1 h2 h3 h4 h5 h6) (by simp [borF, all2])

set_option maxHeartbeats 1000000 in
theorem merge26 (l : Bool) (ks : List (List UInt8)) (vs : List Int) (key : List UInt8) (l' : Bool) (ks' : List (List UInt8)) (vs' : List Int) (hk : ks.length ≤ 1000000000) (hv : vs.length ≤ 1000000000) (hk' : ks'.length ≤ 1000000000) (hv' : vs'.length ≤ 1000000000) :
    PureC Try.prog 26 [nodeP l ks vs, .str key, nodeP l' ks' vs'] (nodeP l (ks ++ (if l then [] else [key]) ++ ks') (vs ++ vs')) := by
  have c1 := concat45p [ks.map PC.str, [.str key]] (by simp) (by simp) (by simp; omega) (by simp)
  have c3 := concat46p [vs.map PC.int, vs'.map PC.int] (by simp) (by simp) (by simp; omega) (by simp)
  refine pure_of_aw (ys := [_]) [] [(4, [(14, .w [])])] [] mixed Try.func26 rfl (by kernel_rfl) (by kernel_rfl) (by simp [Try.ntmps26]) rfl ?_
  cases l
  · have c2 := concat45p [ks.map PC.str ++ [.str key], ks'.map PC.str] (by simp; rintro x (⟨a, _, rfl⟩ | rfl) <;> rfl) (by simp; rintro x (⟨a, _, rfl⟩ | rfl) <;> rfl) (by simp; omega) (by simp)
    simp
    refine pcall_of c1 (by simp) ?_
    simp
    refine call_of c2 ?_
    simp
    refine call_of c3 ?_
    simp [Try.results26]
  · have c2 := concat45p [ks.map PC.str, ks'.map PC.str] (by simp) (by simp) (by simp; omega) (by simp)
    simp
    refine call_of c2 ?_
    simp
    refine call_of c3 ?_
    simp [Try.results26]

set_option maxHeartbeats 1000000 in
theorem merge27 (l : Bool) (ks : List (List UInt8)) (vs : List Int) (key : List UInt8) (l' : Bool) (ks' : List (List UInt8)) (vs' : List Int) (hk : ks.length ≤ 1000000000) (hv : vs.length ≤ 1000000000) (hk' : ks'.length ≤ 1000000000) (hv' : vs'.length ≤ 1000000000) :
    PureC Try.prog 27 [nodeP l ks vs, .str key, nodeP l' ks' vs'] (nodeP l (ks ++ (if l then [] else [key]) ++ ks') (vs ++ vs')) := by
  have c0 := part44 1 l ks vs 0 ks.length 0 vs.length (by omega) (by omega) (by omega) (by omega) (by omega) (by omega)
  refine pure_of_aw (ys := [_]) [] [] [] mixed Try.func27 rfl (by kernel_rfl) (by kernel_rfl) (by simp [Try.ntmps27]) rfl ?_
  simp
  refine gcall_of0 c0 (by simp) trivial trivial rfl ?_
  cases l
  · simp [Try.results27]
    exact ⟨wTS, by omega, by omega, wTSk, by omega, by omega, wTI, by omega, by omega, (List.take_of_length_le (by simp)).symm, (List.take_of_length_le (by simp)).symm⟩
  · simp [Try.results27]
    exact ⟨wTS, by omega, by omega, wTI, by omega, by omega, (List.take_of_length_le (by simp)).symm, (List.take_of_length_le (by simp)).symm⟩

set_option maxHeartbeats 1000000 in
theorem split24 (l : Bool) (ks : List (List UInt8)) (vs : List Int) (hk : ks.length ≤ 1000000000) (hv : vs.length ≤ 1000000000) :
    PureC Try.prog 24 [nodeP l ks vs] (splitR l ks vs) := by
  by_cases f0 : fmd l ks vs = true
  · by_cases f1 : 2 ≤ ks.length
    · have hlen : vs.length = ks.length + (if l then 0 else 1) := by simpa [fmd] using f0
      have e1 : ¬ (ks.length : Int) < 2 := by omega
      obtain ⟨h, hh⟩ : ∃ h, h = ks.length / 2 := ⟨_, rfl⟩
      have b1 : h < ks.length := by omega
      have w0 : IntKind.i64.wrap ((ks.length : Int) / 2) = (h : Int) := by
        rw [wrap64_id (by omega) (by omega)]; omega
      have w1 : IntKind.i64.wrap ((h : Int) + 1) = ((h + 1 : Nat) : Int) := by rw [wrap64_id (by omega) (by omega)]; rfl
      have w2 : IntKind.i64.wrap ((ks.length : Int) + 1) = ((ks.length + 1 : Nat) : Int) := by rw [wrap64_id (by omega) (by omega)]; rfl
      simp only [splitR, f0, f1, decide_true, Bool.and_true, if_true, ← hh]
      refine pure_of_aw (ys := [_, _, _]) [] [(3, [(4, .s 1 []), (6, .s 2 [])]), (6, [(15, .s 1 []), (17, .s 2 [])]), (7, [(19, .s 1 []), (21, .s 2 [])])] [(1, 0), (2, 1)] mixed Try.func24 rfl (by kernel_rfl) (by kernel_rfl) (by simp [Try.ntmps24]) rfl ?_
      simp
      refine pcall_of (formed25 l ks vs (by omega)) (by simp) ?_
      cases l
      · simp at hlen
        have c1 := part44p false ks vs 0 h 0 (h + 1) (by omega) (by omega) (by omega) (by omega) (by omega) (by omega)
        have c2 := part44p false ks vs (h + 1) ks.length (h + 1) (ks.length + 1) (by omega) (by omega) (by omega) (by omega) (by omega) (by omega)
        simp [w0, w1, w2] at c1 c2
        simp [f0, e1, w0, w1, w2]
        refine call_of c1 ?_
        simp [b1, w1, w2]
        refine call_of c2 ?_
        simp [Try.results24]
        rw [List.take_of_length_le (l := vs.map PC.int) (by simp; omega)]
      · simp at hlen
        have c1 := part44p true ks vs 0 h 0 h (by omega) (by omega) (by omega) (by omega) (by omega) (by omega)
        have c2 := part44p true ks vs h ks.length h ks.length (by omega) (by omega) (by omega) (by omega) (by omega) (by omega)
        simp [w0, w1, w2] at c1 c2
        simp [f0, e1, w0, w1, w2]
        refine call_of c1 ?_
        simp [b1, w1, w2]
        refine call_of c2 ?_
        simp [Try.results24]
        rw [List.take_of_length_le (l := vs.map PC.int) (by simp; omega)]
    · have e1 : (ks.length : Int) < 2 := by omega
      simp only [splitR, f0, f1, decide_false, Bool.and_false]
      refine pure_of_aw (ys := [_, _, _]) [] [(3, [(4, .s 1 []), (6, .s 2 [])]), (6, [(15, .s 1 []), (17, .s 2 [])]), (7, [(19, .s 1 []), (21, .s 2 [])])] [(1, 0), (2, 1)] mixed Try.func24 rfl (by kernel_rfl) (by kernel_rfl) (by simp [Try.ntmps24]) rfl ?_
      simp
      refine pcall_of (formed25 l ks vs (by omega)) (by simp) ?_
      simp [f0, e1, Try.results24]
  · have f0 : fmd l ks vs = false := by simpa using f0
    simp only [splitR, f0, Bool.false_and]
    refine pure_of_aw (ys := [_, _, _]) [] [(3, [(4, .s 1 []), (6, .s 2 [])]), (6, [(15, .s 1 []), (17, .s 2 [])]), (7, [(19, .s 1 []), (21, .s 2 [])])] [(1, 0), (2, 1)] mixed Try.func24 rfl (by kernel_rfl) (by kernel_rfl) (by simp [Try.ntmps24]) rfl ?_
    simp
    refine pcall_of (formed25 l ks vs (by omega)) (by simp) ?_
    simp [f0, Try.results24]

theorem sameB_eq {l l' : Bool} {ks ks' : List (List UInt8)} {vs vs' : List Int} : sameB l ks vs l' ks' vs' = true ↔ l = l' ∧ ks = ks' ∧ vs = vs' := by simp [sameB, and_assoc]

theorem split_ex (l : Bool) (ks : List (List UInt8)) (vs : List Int) : ∃ A B m C D, splitR l ks vs = .tp [nodeP l A B, .str m, nodeP l C D] ∧ A.length ≤ ks.length ∧ B.length ≤ vs.length ∧ C.length ≤ ks.length ∧ D.length ≤ vs.length ∧
    (fmd l ks vs = true → 2 ≤ ks.length → A ++ (if l then [] else [m]) ++ C = ks ∧ B ++ D = vs) := by
  by_cases hs : (fmd l ks vs && decide (2 ≤ ks.length)) = true
  · refine ⟨ks.take (ks.length / 2), vs.take (ks.length / 2 + if l then 0 else 1), ks.getD (ks.length / 2) [], ks.drop (ks.length / 2 + if l then 0 else 1), vs.drop (ks.length / 2 + if l then 0 else 1), by simp only [splitR, hs, if_true], by simp; omega, by simp; omega, by simp, by simp, fun hf h2 => ⟨?_, List.take_append_drop _ _⟩⟩
    have hlt : ks.length / 2 < ks.length := by omega
    cases l
    · simp only [Bool.false_eq_true, if_false]
      have e : ks.getD (ks.length / 2) [] = ks[ks.length / 2] := by simp [hlt]
      rw [e, ← List.take_succ_eq_append_getElem hlt, List.take_append_drop]
    · simp
  · refine ⟨ks, vs, [], [], [], by simp [splitR, hs], by omega, by omega, by simp, by simp, fun hf h2 => ?_⟩
    simp [hf, h2] at hs

set_option maxHeartbeats 2000000 in
theorem law6 (l : Bool) (ks : List (List UInt8)) (vs : List Int) (l' : Bool) (ks' : List (List UInt8)) (vs' : List Int) (key : List UInt8) : PureC Try.prog 6 [nodeP l ks vs, nodeP l' ks' vs', .str key] (.bool true) := by
  refine pure_of_aw (ys := [_]) [] [(7, [(9, .r 1), (11, .r 2)])] [(1, 0), (2, 1)] mixed Try.func6 rfl (by kernel_rfl) (by kernel_rfl) (by simp [Try.ntmps6]) rfl ?_
  simp
  refine pcall_of awake9 (by simp) ?_
  simp
  refine pcall_of (few10 l ks vs) (by simp) ?_
  by_cases h1 : fewB ks vs = true
  · simp [h1]
    refine pcall_of (few10 l' ks' vs') (by simp) ?_
    by_cases h2 : fewB ks' vs' = true
    · simp [h2]
      simp [fewB] at h1 h2
      by_cases h3 : 300 < (key.length : Int)
      · simp [h3]
        refine pcall_of awake9 (by simp) ?_
        simp [Try.results6]
      · simp [h3]
        refine pcall_of (lcopied15 l ks vs (by omega) (by omega)) (by simp) ?_
        have c1 := split23 l ks vs (by omega) (by omega)
        have c2 := split24 l ks vs (by omega) (by omega)
        obtain ⟨A, B, m, C, D, e0, lA, lB, lC, lD, hm⟩ := split_ex l ks vs
        rw [e0] at c1 c2
        simp
        refine pcall_of c1 (by simp) ?_
        simp
        refine pcall_of c2 (by simp) ?_
        simp
        refine pcall_of (same18 l A B l A B (by omega) (by omega)) (by simp) ?_
        simp
        refine pcall_of (same18 l C D l C D (by omega) (by omega)) (by simp) ?_
        simp
        have tail : PureC Try.prog 26 [nodeP l ks vs, .str key, nodeP l' ks' vs'] _ := merge26 l ks vs key l' ks' vs' (by omega) (by omega) (by omega) (by omega)
        have tail2 : PureC Try.prog 27 [nodeP l ks vs, .str key, nodeP l' ks' vs'] _ := merge27 l ks vs key l' ks' vs' (by omega) (by omega) (by omega) (by omega)
        have tail3 := fun a b => same18 l (ks ++ (if l then [] else [key]) ++ ks') (vs ++ vs') l (ks ++ (if l then [] else [key]) ++ ks') (vs ++ vs') a b
        generalize hU : ks ++ (if l then [] else [key]) ++ ks' = U at tail tail2 tail3
        generalize hW : vs ++ vs' = W at tail tail2 tail3
        have lU : U.length ≤ 100 := by rw [← hU]; simp; split <;> simp <;> omega
        have lW : W.length ≤ 100 := by rw [← hW]; simp; omega
        by_cases g1 : (2 : Int) ≤ (ks.length : Int)
        · simp [g1]
          refine call_of (formed25 l ks vs (by omega)) ?_
          cases g2 : fmd l ks vs with
          | true =>
            obtain ⟨m1, m2⟩ := hm g2 (by omega)
            have c6 := merge26 l A B m l C D (by omega) (by omega) (by omega) (by omega)
            rw [m1, m2] at c6
            simp
            refine call_of c6 ?_
            simp
            refine call_of (same18 l ks vs l ks vs (by omega) (by omega)) ?_
            simp
            refine call_of tail ?_
            simp
            refine call_of tail2 ?_
            simp
            refine call_of (tail3 (by omega) (by omega)) ?_
            simp [Try.results6]
          | false =>
            simp
            refine call_of tail ?_
            simp
            refine call_of tail2 ?_
            simp
            refine call_of (tail3 (by omega) (by omega)) ?_
            simp [Try.results6]
        · simp [g1]
          refine call_of tail ?_
          simp
          refine call_of tail2 ?_
          simp
          refine call_of (tail3 (by omega) (by omega)) ?_
          simp [Try.results6]
    · simp [h2]
      refine pcall_of awake9 (by simp) ?_
      simp [Try.results6]
  · simp [h1]
    refine pcall_of awake9 (by simp) ?_
    simp [Try.results6]
end Go.Av

/-! part N17x -/
namespace Go.Av
open Go.Proofs
theorem law6n {x y z : PC} (hx : nodeS x) (hy : nodeS y) (hz : strS z) : PureC Try.prog 6 [x, y, z] (.bool true) := by
  obtain ⟨l, ks, vs, rfl⟩ := hx
  obtain ⟨l', ks', vs', rfl⟩ := hy
  obtain ⟨s, rfl⟩ := hz
  exact law6 l ks vs l' ks' vs' s
end Go.Av
