/- Trees of pages in plain Lean: what Put, Delete, Get, Scan and the looks compute, and that each keeps a tree. -/
import Derived.Test.YtfonhoahpmjjbaaTf
import Derived.WalkKit
set_option linter.all false
/-! part R01 -/
namespace Go.Tre

abbrev Key := List UInt8
abbrev Its := List (Key × Int)
/-- one key is ahead of another -/
abbrev lt (a b : Key) : Prop := Op.bytesLess a b = true
instance (a b : Key) : Decidable (lt a b) := inferInstanceAs (Decidable (_ = true))

theorem lt_tri : ∀ (a b : List UInt8), Op.bytesLess b a = (!Op.bytesLess a b && !a == b)
  | [], [] => rfl
  | [], _ :: _ => rfl
  | _ :: _, [] => rfl
  | x :: a, y :: b => by
    have ih := lt_tri a b
    rcases Nat.lt_trichotomy x.toNat y.toNat with h | h | h
    · have h1 : x < y := h
      have h2 : ¬ y < x := fun k => by have : y.toNat < x.toNat := k; omega
      have h3 : (y == x) = false := by simp; intro e; subst e; omega
      simp [Op.bytesLess, h1, h2, h3]
    · have h1 : x = y := UInt8.toNat_inj.mp h
      subst h1
      have h2 : ¬ x < x := fun k => by have : x.toNat < x.toNat := k; omega
      simp [Op.bytesLess, h2, ih]
    · have h1 : y < x := h
      have h2 : ¬ x < y := fun k => by have : x.toNat < y.toNat := k; omega
      have h3 : (x == y) = false := by simp; intro e; subst e; omega
      have h4 : x ≠ y := by intro e; subst e; omega
      simp [Op.bytesLess, h1, h2, h3, h4]
theorem bl_irrefl : ∀ a : List UInt8, Op.bytesLess a a = false
  | [] => rfl
  | x :: a => by
    have h2 : ¬ x < x := fun k => by have : x.toNat < x.toNat := k; omega
    simp [Op.bytesLess, h2, bl_irrefl a]
theorem bl_trans : ∀ {a b c : List UInt8}, Op.bytesLess a b = true → Op.bytesLess b c = true → Op.bytesLess a c = true
  | _, [], _, h, _ => by simp [Op.bytesLess] at h
  | _, _ :: _, [], _, h => by simp [Op.bytesLess] at h
  | [], _ :: _, _ :: _, _, _ => rfl
  | x :: a, y :: b, z :: c, h, k => by
    simp only [Op.bytesLess, Bool.or_eq_true, decide_eq_true_eq, Bool.and_eq_true, beq_iff_eq] at h k ⊢
    have lt_iff : ∀ p q : UInt8, p < q ↔ p.toNat < q.toNat := fun p q => Iff.rfl
    simp only [lt_iff] at h k ⊢
    rcases h with h | ⟨h, h'⟩
    · rcases k with k | ⟨k, k'⟩
      · exact .inl (by omega)
      · subst k; exact .inl h
    · subst h
      rcases k with k | ⟨k, k'⟩
      · exact .inl k
      · subst k; exact .inr ⟨rfl, bl_trans h' k'⟩
theorem lt_irrefl (a : Key) : ¬ lt a a := by unfold lt; rw [bl_irrefl]; exact Bool.false_ne_true
theorem lt_trans {a b c : Key} (h : lt a b) (k : lt b c) : lt a c := bl_trans h k
theorem lt_asymm {a b : Key} (h : lt a b) : ¬ lt b a := fun k => lt_irrefl a (lt_trans h k)
/-- not ahead: the same, or behind -/
theorem nlt {a b : Key} (h : ¬ lt a b) : a = b ∨ lt b a := by
  have := lt_tri a b
  have h' : Op.bytesLess a b = false := by simpa [lt] using h
  rw [h'] at this
  by_cases e : a = b
  · exact .inl e
  · right; simp [lt, this, e]
/-- at or behind -/
abbrev le (a b : Key) : Prop := ¬ lt b a
theorem le_refl (a : Key) : le a a := lt_irrefl a
theorem lt_le {a b : Key} (h : lt a b) : le a b := lt_asymm h
theorem le_lt {a b c : Key} (h : le a b) (k : lt b c) : lt a c := by
  rcases nlt h with e | e
  · subst e; exact k
  · exact lt_trans e k
theorem lt_of_lt_le {a b c : Key} (h : lt a b) (k : le b c) : lt a c := by
  rcases nlt k with e | e
  · subst e; exact h
  · exact lt_trans h e
theorem le_trans {a b c : Key} (h : le a b) (k : le b c) : le a c := fun e => k (lt_of_lt_le e h)
theorem le_nil (a : Key) : le [] a := by cases a <;> simp [lt, Op.bytesLess]
theorem le_antisymm {a b : Key} (h : le a b) (k : le b a) : a = b := by
  rcases nlt h with e | e
  · exact e.symm
  · exact absurd e k

/-! ### items in order -/
def place (l : Its) (key : Key) : Nat := (l.takeWhile fun x => Op.bytesLess x.1 key).length
def found (l : Its) (key : Key) : Bool := match l[place l key]? with | some x => x.1 == key | none => false
def valAt (l : Its) (key : Key) : Int := match l[place l key]? with | some x => x.2 | none => 0
def rget (l : Its) (key : Key) : Int × Bool := if found l key then (valAt l key, true) else (0, false)
def rput (l : Its) (key : Key) (v : Int) : Its := l.take (place l key) ++ (key, v) :: l.drop (if found l key then place l key + 1 else place l key)
def rdel (l : Its) (key : Key) : Its := if found l key then l.take (place l key) ++ l.drop (place l key + 1) else l
def rscan (l : Its) (frm : Key) (most : Int) : Its := (l.drop (place l frm)).take most.toNat

/-- each behind what is ahead of it -/
def Asc (l : Its) : Prop := l.Pairwise fun x y => lt x.1 y.1

theorem place_app {A M : Its} {key : Key} (h : ∀ x ∈ A, lt x.1 key) : place (A ++ M) key = A.length + place M key := by
  unfold place
  induction A with
  | nil => simp
  | cons x A ih =>
    have h1 : Op.bytesLess x.1 key = true := h x (by simp)
    simp only [List.cons_append, List.takeWhile_cons, h1, if_true, List.length_cons]
    have := ih fun y hy => h y (by simp [hy])
    omega
theorem place_le (l : Its) (key : Key) : place l key ≤ l.length := (List.takeWhile_sublist _).length_le
theorem place_stop {M B : Its} {key : Key} (h : ∀ x ∈ B, ¬ lt x.1 key) : place (M ++ B) key = place M key := by
  unfold place
  induction M with
  | nil =>
    cases B with
    | nil => rfl
    | cons y B =>
      have h1 : Op.bytesLess y.1 key = false := by simpa [lt] using h y (by simp)
      simp [h1]
  | cons x M ih =>
    simp only [List.cons_append, List.takeWhile_cons]
    split
    · simp only [List.length_cons]; omega
    · rfl
theorem get_mid {A M B : Its} {key : Key} (hA : ∀ x ∈ A, lt x.1 key) (hB : ∀ x ∈ B, lt key x.1) :
    (A ++ M ++ B)[place (A ++ M ++ B) key]? = (M ++ B)[place M key]? ∧ place (A ++ M ++ B) key = A.length + place M key := by
  have h1 : place (A ++ M ++ B) key = A.length + place M key := by
    rw [List.append_assoc, place_app hA, place_stop fun x hx => lt_asymm (hB x hx)]
  refine ⟨?_, h1⟩
  rw [h1, List.append_assoc, List.getElem?_append_right (by omega)]
  congr 1; omega
theorem found_mid {A M B : Its} {key : Key} (hA : ∀ x ∈ A, lt x.1 key) (hB : ∀ x ∈ B, lt key x.1) : found (A ++ M ++ B) key = found M key := by
  unfold found
  rw [(get_mid hA hB).1]
  rcases Nat.lt_or_ge (place M key) M.length with h | h
  · rw [List.getElem?_append_left h]
  · have e : place M key = M.length := Nat.le_antisymm (place_le _ _) h
    rw [e]
    simp only [Nat.le_refl, List.getElem?_append_right, Nat.sub_self, List.getElem?_eq_none]
    cases B with
    | nil => rfl
    | cons y B =>
      have h2 := hB y (by simp)
      have : (y.1 == key) = false := by
        simp only [beq_eq_false_iff_ne, ne_eq]; intro e; rw [e] at h2; exact lt_irrefl _ h2
      simp [this]
theorem found_lt {M : Its} {key : Key} (h : found M key = true) : place M key < M.length := by
  unfold found at h
  split at h
  · rename_i x hx; exact (List.getElem?_eq_some_iff.1 hx).1
  · cases h
theorem valAt_mid {A M B : Its} {key : Key} (hA : ∀ x ∈ A, lt x.1 key) (hB : ∀ x ∈ B, lt key x.1) (hf : found M key = true) : valAt (A ++ M ++ B) key = valAt M key := by
  unfold valAt
  rw [(get_mid hA hB).1, List.getElem?_append_left (found_lt hf)]
theorem rget_mid {A M B : Its} {key : Key} (hA : ∀ x ∈ A, lt x.1 key) (hB : ∀ x ∈ B, lt key x.1) : rget (A ++ M ++ B) key = rget M key := by
  unfold rget
  rw [found_mid hA hB]
  split
  · rename_i h; rw [valAt_mid hA hB h]
  · rfl
theorem take_mid {α : Type} {A M B : List α} {k : Nat} (h : k ≤ M.length) : (A ++ M ++ B).take (A.length + k) = A ++ M.take k := by
  rw [List.append_assoc, List.take_append, List.take_of_length_le (by omega), List.take_append]
  simp only [Nat.add_sub_cancel_left]
  rw [show k - M.length = 0 by omega]; simp
theorem drop_mid {α : Type} {A M B : List α} {k : Nat} (h : k ≤ M.length) : (A ++ M ++ B).drop (A.length + k) = M.drop k ++ B := by
  rw [List.append_assoc, List.drop_append, List.drop_of_length_le (by omega), List.drop_append]
  simp only [Nat.add_sub_cancel_left]
  rw [show k - M.length = 0 by omega]; simp
theorem rput_mid {A M B : Its} {key : Key} {v : Int} (hA : ∀ x ∈ A, lt x.1 key) (hB : ∀ x ∈ B, lt key x.1) : rput (A ++ M ++ B) key v = A ++ rput M key v ++ B := by
  unfold rput
  rw [found_mid hA hB, (get_mid hA hB).2, take_mid (place_le _ _)]
  split
  · rename_i h
    rw [show A.length + place M key + 1 = A.length + (place M key + 1) by omega, drop_mid (by have := found_lt h; omega)]
    simp
  · rw [drop_mid (place_le _ _)]; simp
theorem rdel_mid {A M B : Its} {key : Key} (hA : ∀ x ∈ A, lt x.1 key) (hB : ∀ x ∈ B, lt key x.1) : rdel (A ++ M ++ B) key = A ++ rdel M key ++ B := by
  unfold rdel
  rw [found_mid hA hB, (get_mid hA hB).2]
  split
  · rename_i h
    rw [take_mid (place_le _ _), show A.length + place M key + 1 = A.length + (place M key + 1) by omega, drop_mid (by have := found_lt h; omega)]
    simp
  · rfl
theorem mem_rput {l : Its} {key : Key} {v : Int} {x : Key × Int} (h : x ∈ rput l key v) : x = (key, v) ∨ x ∈ l := by
  unfold rput at h
  rcases List.mem_append.1 h with h | h
  · exact .inr (List.mem_of_mem_take h)
  · rcases List.mem_cons.1 h with h | h
    · exact .inl h
    · exact .inr (List.mem_of_mem_drop h)
theorem mem_rdel {l : Its} {key : Key} {x : Key × Int} (h : x ∈ rdel l key) : x ∈ l := by
  unfold rdel at h
  split at h
  · rcases List.mem_append.1 h with h | h
    · exact List.mem_of_mem_take h
    · exact List.mem_of_mem_drop h
  · exact h
theorem place_spec (l : Its) (key : Key) : (∀ x ∈ l.take (place l key), lt x.1 key) ∧ ∀ (h : place l key < l.length), ¬ lt l[place l key].1 key := by
  unfold place
  induction l with
  | nil => simp
  | cons x l ih =>
    by_cases c : Op.bytesLess x.1 key = true
    · simp only [List.takeWhile_cons, c, if_true, List.length_cons, List.take_succ_cons, List.mem_cons, forall_eq_or_imp, List.getElem_cons_succ]
      exact ⟨⟨c, ih.1⟩, fun h => ih.2 (by omega)⟩
    · simp only [List.takeWhile_cons, c, if_false, List.length_nil, List.take_zero, List.getElem_cons_zero]
      exact ⟨fun _ h => by simp at h, fun _ => c⟩
end Go.Tre

/-! part R02 -/
namespace Go.Tre

structure Nd where
  lf : Bool
  ks : List Key
  vs : List Int
  deriving Inhabited, DecidableEq

structure Sto where
  nd : List Nd
  th : List Bool
  sv : Int
  fl : Int

def Sto.get (s : Sto) (p : Int) : Option Nd := if 1 ≤ p ∧ p ≤ s.nd.length ∧ s.th.getD (p.toNat - 1) false = true then s.nd[p.toNat - 1]? else none

/-- keys rise -/
def Ris (ks : List Key) : Prop := ks.Pairwise lt
def kOk (k : Key) : Prop := 1 ≤ k.length ∧ k.length ≤ 100
def vOk (v : Int) : Prop := 0 ≤ v ∧ v < 1099511627776
/-- may there be such a node? -/
structure Right (n : Nd) : Prop where
  ris : Ris n.ks
  keys : ∀ k ∈ n.ks, kOk k
  vals : ∀ v ∈ n.vs, vOk v
  len : n.ks.length ≤ 4
  form : n.vs.length = n.ks.length + (if n.lf then 0 else 1)
  inner : n.lf = false → 1 ≤ n.ks.length
/-- .. with a key more, or fewer -/
structure Loose (n : Nd) : Prop where
  ris : Ris n.ks
  keys : ∀ k ∈ n.ks, kOk k
  vals : ∀ v ∈ n.vs, vOk v
  form : n.vs.length = n.ks.length + (if n.lf then 0 else 1)
theorem Right.loose {n : Nd} (h : Right n) : Loose n := ⟨h.ris, h.keys, h.vals, h.form⟩

def full (n : Nd) : Prop := (if n.lf then 2 else 1) ≤ n.ks.length

/-- a key within a span -/
def Win (lo : Key) (hi : Option Key) (k : Key) : Prop := le lo k ∧ ∀ h, hi = some h → lt k h

abbrev Rel := Int → Key → Option Key → Its → List Int → Prop
/-- the children of a node: their items, their pages -/
def Kids (R : Rel) : Key → List Key → Option Key → List Int → Its → List Int → Prop
  | lo, [], hi, [v], its, pg => R v lo hi its pg
  | lo, k :: ks, hi, v :: vs, its, pg => ∃ i1 p1 i2 p2, R v lo (some k) i1 p1 ∧ Kids R k ks hi vs i2 p2 ∧ its = i1 ++ i2 ∧ pg = p1 ++ p2
  | _, _, _, _, _, _ => False

def At (N : Nd → Key → Option Key → Its → List Int → Prop) (s : Sto) : Rel := fun v lo hi its pg => ∃ n pg', s.get v = some n ∧ Right n ∧ full n ∧ N n lo hi its pg' ∧ pg = v :: pg'
/-- what a node of a height has -/
def Has (s : Sto) : Nat → Nd → Key → Option Key → Its → List Int → Prop
  | 0, n, lo, hi, its, pg => n.lf = true ∧ Loose n ∧ (∀ k ∈ n.ks, Win lo hi k) ∧ its = n.ks.zip n.vs ∧ pg = []
  | h + 1, n, lo, hi, its, pg => n.lf = false ∧ Loose n ∧ (∀ k ∈ n.ks, Win lo hi k) ∧ Kids (At (Has s h) s) lo n.ks hi n.vs its pg
/-- a page that has a tree of a height beneath it, not the root -/
def Tr (s : Sto) (h : Nat) : Rel := At (Has s h) s

theorem kids_len {R : Rel} : ∀ {lo : Key} {ks : List Key} {hi : Option Key} {vs : List Int} {its : Its} {pg : List Int}, Kids R lo ks hi vs its pg → vs.length = ks.length + 1
  | _, [], _, [], _, _, h => by simp [Kids] at h
  | _, [], _, [v], _, _, _ => rfl
  | _, [], _, v :: w :: vs, _, _, h => by simp [Kids] at h
  | _, k :: ks, _, [], _, _, h => by simp [Kids] at h
  | _, k :: ks, _, v :: vs, _, _, h => by
    obtain ⟨_, _, _, _, _, h2, _⟩ := h
    simp [kids_len h2]

theorem kids_mono {R R' : Rel} (hR : ∀ v lo hi its pg, R v lo hi its pg → R' v lo hi its pg) : ∀ {lo : Key} {ks : List Key} {hi : Option Key} {vs : List Int} {its : Its} {pg : List Int}, Kids R lo ks hi vs its pg → Kids R' lo ks hi vs its pg
  | _, [], _, [], _, _, h => by simp [Kids] at h
  | _, [], _, [v], _, _, h => hR _ _ _ _ _ h
  | _, [], _, v :: w :: vs, _, _, h => by simp [Kids] at h
  | _, k :: ks, _, [], _, _, h => by simp [Kids] at h
  | _, k :: ks, _, v :: vs, _, _, h => by
    obtain ⟨i1, p1, i2, p2, h1, h2, h3, h4⟩ := h
    exact ⟨i1, p1, i2, p2, hR _ _ _ _ _ h1, kids_mono hR h2, h3, h4⟩

/-- .. by pages -/
theorem kids_monoP {R R' : Rel} {Q : Int → Prop} (hR : ∀ v lo hi its pg, R v lo hi its pg → (∀ p ∈ pg, Q p) → R' v lo hi its pg) : ∀ {lo : Key} {ks : List Key} {hi : Option Key} {vs : List Int} {its : Its} {pg : List Int}, Kids R lo ks hi vs its pg → (∀ p ∈ pg, Q p) → Kids R' lo ks hi vs its pg
  | _, [], _, [], _, _, h, _ => by simp [Kids] at h
  | _, [], _, [v], _, _, h, hq => hR _ _ _ _ _ h hq
  | _, [], _, v :: w :: vs, _, _, h, _ => by simp [Kids] at h
  | _, k :: ks, _, [], _, _, h, _ => by simp [Kids] at h
  | _, k :: ks, _, v :: vs, _, _, h, hq => by
    obtain ⟨i1, p1, i2, p2, h1, h2, h3, h4⟩ := h
    subst h4
    exact ⟨i1, p1, i2, p2, hR _ _ _ _ _ h1 fun p hp => hq p (by simp [hp]), kids_monoP hR h2 fun p hp => hq p (by simp [hp]), h3, rfl⟩

/-- pages that are there stay -/
theorem has_mono {s s' : Sto} {Q : Int → Prop} (hs : ∀ p n, Q p → s.get p = some n → s'.get p = some n) : ∀ (h : Nat) {n : Nd} {lo : Key} {hi : Option Key} {its : Its} {pg : List Int}, Has s h n lo hi its pg → (∀ p ∈ pg, Q p) → Has s' h n lo hi its pg
  | 0, _, _, _, _, _, hh, _ => hh
  | h + 1, n, lo, hi, its, pg, ⟨h1, h2, h3, h4⟩, hq => by
    refine ⟨h1, h2, h3, kids_monoP (Q := Q) (fun v lo hi its pg hr hq => ?_) h4 hq⟩
    obtain ⟨m, pg', e1, e2, e3, e4, rfl⟩ := hr
    exact ⟨m, pg', hs _ _ (hq _ (by simp)) e1, e2, e3, has_mono hs h e4 fun p hp => hq p (by simp [hp]), rfl⟩
theorem tr_mono {s s' : Sto} {Q : Int → Prop} (hs : ∀ p n, Q p → s.get p = some n → s'.get p = some n) {h : Nat} {p : Int} {lo : Key} {hi : Option Key} {its : Its} {pg : List Int} (ht : Tr s h p lo hi its pg) (hq : ∀ p ∈ pg, Q p) : Tr s' h p lo hi its pg := by
  obtain ⟨m, pg', e1, e2, e3, e4, rfl⟩ := ht
  exact ⟨m, pg', hs _ _ (hq _ (by simp)) e1, e2, e3, has_mono hs h e4 fun p hp => hq p (by simp [hp]), rfl⟩

/-! ### where the items lie -/
theorem ris_get {ks : List Key} (h : Ris ks) {i j : Nat} (hij : i < j) (hj : j < ks.length) : lt ks[i] ks[j] := List.pairwise_iff_getElem.1 h i j (by omega) hj hij

/-- R's items lie in its span, and rise -/
def Fine (R : Rel) : Prop := ∀ v lo hi its pg, R v lo hi its pg → Asc its ∧ ∀ x ∈ its, Win lo hi x.1

theorem kids_fine {R : Rel} (hR : Fine R) : ∀ {lo : Key} {ks : List Key} {hi : Option Key} {vs : List Int} {its : Its} {pg : List Int}, Ris ks → (∀ k ∈ ks, Win lo hi k) → Kids R lo ks hi vs its pg → Asc its ∧ ∀ x ∈ its, Win lo hi x.1
  | _, [], _, [], _, _, _, _, h => by simp [Kids] at h
  | _, [], _, [v], _, _, _, _, h => hR _ _ _ _ _ h
  | _, [], _, v :: w :: vs, _, _, _, _, h => by simp [Kids] at h
  | _, k :: ks, _, [], _, _, _, _, h => by simp [Kids] at h
  | lo, k :: ks, hi, v :: vs, _, _, hr, hw, h => by
    obtain ⟨i1, p1, i2, p2, h1, h2, rfl, rfl⟩ := h
    obtain ⟨a1, a2⟩ := hR _ _ _ _ _ h1
    have hr' := List.pairwise_cons.1 hr
    have hk := hw k (by simp)
    obtain ⟨b1, b2⟩ := kids_fine hR (lo := k) hr'.2 (fun x hx => ⟨lt_le (hr'.1 x hx), (hw x (by simp [hx])).2⟩) h2
    refine ⟨List.pairwise_append.2 ⟨a1, b1, fun x hx y hy => lt_of_lt_le ((a2 x hx).2 k rfl) (b2 y hy).1⟩, fun x hx => ?_⟩
    rcases List.mem_append.1 hx with hx | hx
    · exact ⟨(a2 x hx).1, fun h e => lt_trans ((a2 x hx).2 k rfl) (hk.2 h e)⟩
    · exact ⟨le_trans hk.1 (b2 x hx).1, (b2 x hx).2⟩

theorem asc_zip : ∀ {ks : List Key} {vs : List Int}, Ris ks → Asc (ks.zip vs)
  | [], _, _ => by simp [Asc]
  | _ :: _, [], _ => by simp [Asc]
  | k :: ks, v :: vs, h => by
    have h := List.pairwise_cons.1 h
    refine List.pairwise_cons.2 ⟨fun x hx => h.1 _ (List.of_mem_zip hx).1, asc_zip h.2⟩

theorem has_fine (s : Sto) : ∀ (h : Nat) {n : Nd} {lo : Key} {hi : Option Key} {its : Its} {pg : List Int}, Has s h n lo hi its pg → Asc its ∧ ∀ x ∈ its, Win lo hi x.1
  | 0, n, lo, hi, _, pg, ⟨_, h2, h3, rfl, _⟩ => ⟨asc_zip h2.ris, fun x hx => h3 _ (List.of_mem_zip hx).1⟩
  | h + 1, n, lo, hi, its, pg, ⟨_, h2, h3, h4⟩ => kids_fine (fun v lo hi its pg hr => by
      obtain ⟨m, pg', e1, e2, e3, e4, rfl⟩ := hr
      exact has_fine s h e4) h2.ris h3 h4
theorem tr_fine (s : Sto) (h : Nat) : Fine (Tr s h) := fun v lo hi its pg hr => by
  obtain ⟨m, pg', e1, e2, e3, e4, rfl⟩ := hr
  exact has_fine s h e4

/-! ### a child -/
/-- the span of a child -/
def loAt (lo : Key) (ks : List Key) : Nat → Key
  | 0 => lo
  | c + 1 => ks.getD c []
def hiAt (ks : List Key) (hi : Option Key) (c : Nat) : Option Key := match ks[c]? with | some k => some k | none => hi

theorem lo_le {lo : Key} {ks : List Key} {hi : Option Key} (hr : Ris ks) (hw : ∀ k ∈ ks, Win lo hi k) (c : Nat) (hc : c ≤ ks.length) : le lo (loAt lo ks c) := by
  cases c with
  | zero => exact le_refl _
  | succ c =>
    simp only [loAt, List.getD_eq_getElem?_getD]
    rw [List.getElem?_eq_getElem (by omega)]
    exact (hw _ (List.getElem_mem _)).1

/-- what is ahead of a child is ahead of its span, what is behind it is behind -/
structure Apart (lo : Key) (ks : List Key) (hi : Option Key) (c d : Nat) (A B : Its) : Prop where
  A : ∀ x ∈ A, lt x.1 (loAt lo ks c)
  B : ∀ x ∈ B, ∃ k, hiAt ks hi d = some k ∧ le k x.1

/-- one child, and what may stand in its place: one, or two with a key between -/
theorem kids_at {R : Rel} (hF : Fine R) : ∀ {lo : Key} {ks : List Key} {hi : Option Key} {vs : List Int} {its : Its} {pg : List Int} (c : Nat), Ris ks → (∀ k ∈ ks, Win lo hi k) → c ≤ ks.length → Kids R lo ks hi vs its pg →
    ∃ A M B PA PM PB, R (vs.getD c 0) (loAt lo ks c) (hiAt ks hi c) M PM ∧ its = A ++ M ++ B ∧ pg = PA ++ PM ++ PB ∧ Apart lo ks hi c c A B ∧
      (∀ R' : Rel, (∀ v lo hi its pg, R v lo hi its pg → R' v lo hi its pg) → ∀ v' M' PM', R' v' (loAt lo ks c) (hiAt ks hi c) M' PM' → Kids R' lo ks hi (vs.set c v') (A ++ M' ++ B) (PA ++ PM' ++ PB)) ∧
      (∀ R' : Rel, (∀ v lo hi its pg, R v lo hi its pg → R' v lo hi its pg) → ∀ v1 v2 m M1 M2 P1 P2, R' v1 (loAt lo ks c) (some m) M1 P1 → R' v2 m (hiAt ks hi c) M2 P2 → Kids R' lo (ks.take c ++ m :: ks.drop c) hi (vs.take c ++ [v1, v2] ++ vs.drop (c + 1)) (A ++ (M1 ++ M2) ++ B) (PA ++ (P1 ++ P2) ++ PB))
  | _, [], _, [], _, _, _, _, _, _, h => by simp [Kids] at h
  | lo, [], hi, [v], its, pg, c, _, _, hc, h => by
    have : c = 0 := by simpa using hc
    subst this
    refine ⟨[], its, [], [], pg, [], h, by simp, by simp, ⟨by simp, by simp⟩, fun R' hR v' M' PM' hr => by simpa [Kids, loAt, hiAt] using hr, fun R' hR v1 v2 m M1 M2 P1 P2 h1 h2 => ?_⟩
    exact ⟨M1, P1, M2, P2, h1, h2, by simp, by simp⟩
  | _, [], _, v :: w :: vs, _, _, _, _, _, _, h => by simp [Kids] at h
  | _, k :: ks, _, [], _, _, _, _, _, _, h => by simp [Kids] at h
  | lo, k :: ks, hi, v :: vs, _, _, 0, hr, hw, hc, h => by
    obtain ⟨i1, p1, i2, p2, h1, h2, rfl, rfl⟩ := h
    have hr' := List.pairwise_cons.1 hr
    have hf := kids_fine hF (lo := k) hr'.2 (fun x hx => ⟨lt_le (hr'.1 x hx), (hw x (by simp [hx])).2⟩) h2
    refine ⟨[], i1, i2, [], p1, p2, by simpa [loAt, hiAt] using h1, by simp, by simp, ⟨by simp, fun x hx => ⟨k, by simp [hiAt], (hf.2 x hx).1⟩⟩, fun R' hR v' M' PM' hr => ?_, fun R' hR v1 v2 m M1 M2 P1 P2 h3 h4 => ?_⟩
    · exact ⟨M', PM', i2, p2, by simpa [loAt, hiAt] using hr, kids_mono hR h2, by simp, by simp⟩
    · exact ⟨M1, P1, M2 ++ i2, P2 ++ p2, h3, ⟨M2, P2, i2, p2, by simpa [hiAt] using h4, by simpa using kids_mono hR h2, rfl, rfl⟩, by simp, by simp⟩
  | lo, k :: ks, hi, v :: vs, _, _, c + 1, hr, hw, hc, h => by
    obtain ⟨i1, p1, i2, p2, h1, h2, rfl, rfl⟩ := h
    have hr' := List.pairwise_cons.1 hr
    have hw' : ∀ x ∈ ks, Win k hi x := fun x hx => ⟨lt_le (hr'.1 x hx), (hw x (by simp [hx])).2⟩
    obtain ⟨A, M, B, PA, PM, PB, e1, rfl, rfl, ap, e2, e3⟩ := kids_at hF c hr'.2 hw' (by simpa using hc) h2
    have hl : loAt lo (k :: ks) (c + 1) = loAt k ks c := by cases c <;> simp [loAt]
    have hh : hiAt (k :: ks) hi (c + 1) = hiAt ks hi c := by simp [hiAt]
    refine ⟨i1 ++ A, M, B, p1 ++ PA, PM, PB, by rw [hl, hh]; simpa using e1, by simp, by simp, ⟨fun x hx => ?_, by rw [hh]; exact ap.B⟩, fun R' hR v' M' PM' hr => ?_, fun R' hR v1 v2 m M1 M2 P1 P2 h3 h4 => ?_⟩
    · rw [hl]
      rcases List.mem_append.1 hx with hx | hx
      · exact lt_of_lt_le (((hF _ _ _ _ _ h1).2 x hx).2 k rfl) (lo_le hr'.2 hw' c (by simpa using hc))
      · exact ap.A x hx
    · rw [hl, hh] at hr
      exact ⟨i1, p1, _, _, hR _ _ _ _ _ h1, e2 R' hR v' M' PM' hr, by simp, by simp⟩
    · rw [hl] at h3; rw [hh] at h4
      have := e3 R' hR v1 v2 m M1 M2 P1 P2 h3 h4
      exact ⟨i1, p1, _, _, hR _ _ _ _ _ h1, by simpa using this, by simp, by simp⟩
end Go.Tre

/-! part R03 -/
namespace Go.Tre

theorem kids_split {R : Rel} : ∀ {lo : Key} {ks : List Key} {hi : Option Key} {vs : List Int} {its : Its} {pg : List Int} (i : Nat) (hi' : i < ks.length), Kids R lo ks hi vs its pg →
    ∃ i1 i2 p1 p2, Kids R lo (ks.take i) (some ks[i]) (vs.take (i + 1)) i1 p1 ∧ Kids R ks[i] (ks.drop (i + 1)) hi (vs.drop (i + 1)) i2 p2 ∧ its = i1 ++ i2 ∧ pg = p1 ++ p2
  | _, [], _, _, _, _, i, h, _ => by simp at h
  | _, k :: ks, _, [], _, _, _, _, h => by simp [Kids] at h
  | lo, k :: ks, hi, v :: vs, _, _, 0, _, h => by
    obtain ⟨i1, p1, i2, p2, h1, h2, rfl, rfl⟩ := h
    exact ⟨i1, i2, p1, p2, by simpa [Kids] using h1, by simpa using h2, rfl, rfl⟩
  | lo, k :: ks, hi, v :: vs, _, _, i + 1, hi', h => by
    obtain ⟨i1, p1, i2, p2, h1, h2, rfl, rfl⟩ := h
    obtain ⟨j1, j2, q1, q2, e1, e2, rfl, rfl⟩ := kids_split i (by simpa using hi') h2
    exact ⟨i1 ++ j1, j2, p1 ++ q1, q2, ⟨i1, p1, j1, q1, h1, by simpa using e1, rfl, rfl⟩, by simpa using e2, by simp, by simp⟩

theorem kids_join {R : Rel} {k : Key} {hi : Option Key} {ks2 : List Key} {vs2 : List Int} {i2 : Its} {p2 : List Int} (h2 : Kids R k ks2 hi vs2 i2 p2) :
    ∀ {lo : Key} {ks : List Key} {vs : List Int} {its : Its} {pg : List Int}, Kids R lo ks (some k) vs its pg → Kids R lo (ks ++ k :: ks2) hi (vs ++ vs2) (its ++ i2) (pg ++ p2)
  | _, [], [], _, _, h => by simp [Kids] at h
  | _, [], [v], its, pg, h => ⟨its, pg, i2, p2, h, h2, rfl, rfl⟩
  | _, [], v :: w :: vs, _, _, h => by simp [Kids] at h
  | _, _ :: _, [], _, _, h => by simp [Kids] at h
  | lo, k' :: ks, v :: vs, _, _, h => by
    obtain ⟨j1, q1, j2, q2, e1, e2, rfl, rfl⟩ := h
    exact ⟨j1, q1, j2 ++ i2, q2 ++ p2, e1, kids_join h2 e2, by simp, by simp⟩

/-- two children, one beside the other -/
theorem kids_pair {R : Rel} (hF : Fine R) {lo : Key} {ks : List Key} {hi : Option Key} {vs : List Int} {its : Its} {pg : List Int} (c : Nat) (hr : Ris ks) (hw : ∀ k ∈ ks, Win lo hi k) (hc : c < ks.length) (h : Kids R lo ks hi vs its pg) :
    ∃ A M1 M2 B PA P1 P2 PB, R (vs.getD c 0) (loAt lo ks c) (some ks[c]) M1 P1 ∧ R (vs.getD (c + 1) 0) ks[c] (hiAt ks hi (c + 1)) M2 P2 ∧ its = A ++ (M1 ++ M2) ++ B ∧ pg = PA ++ (P1 ++ P2) ++ PB ∧ Apart lo ks hi c (c + 1) A B ∧
      (∀ R' : Rel, (∀ v lo hi its pg, R v lo hi its pg → R' v lo hi its pg) → ∀ v' M' P', R' v' (loAt lo ks c) (hiAt ks hi (c + 1)) M' P' → Kids R' lo (ks.take c ++ ks.drop (c + 1)) hi (vs.take c ++ v' :: vs.drop (c + 2)) (A ++ M' ++ B) (PA ++ P' ++ PB)) ∧
      (∀ R' : Rel, (∀ v lo hi its pg, R v lo hi its pg → R' v lo hi its pg) → ∀ v1 v2 m M1' M2' P1' P2', R' v1 (loAt lo ks c) (some m) M1' P1' → R' v2 m (hiAt ks hi (c + 1)) M2' P2' → Kids R' lo (ks.take c ++ m :: ks.drop (c + 1)) hi (vs.take c ++ v1 :: v2 :: vs.drop (c + 2)) (A ++ (M1' ++ M2') ++ B) (PA ++ (P1' ++ P2') ++ PB)) := by
  induction c generalizing lo ks vs its pg with
  | zero =>
    match ks, vs, h, hc, hr, hw with
    | k :: ks, v :: vs, h, _, hr, hw =>
      obtain ⟨i1, p1, i2, p2, h1, h2, rfl, rfl⟩ := h
      match ks, vs, h2, hr, hw with
      | [], [w], h2, _, _ =>
        refine ⟨[], i1, i2, [], [], p1, p2, [], by simpa [loAt] using h1, by simpa [hiAt, Kids] using h2, by simp, by simp, ⟨by simp, by simp⟩, fun R' hR v' M' P' hr => ?_, fun R' hR v1 v2 m M1' M2' P1' P2' h3 h4 => ?_⟩
        · simpa [Kids, loAt, hiAt] using hr
        · exact ⟨M1', P1', M2', P2', by simpa [loAt] using h3, by simpa [Kids, hiAt] using h4, by simp, by simp⟩
      | k2 :: ks, w :: vs, h2, hr, hw =>
        obtain ⟨j1, q1, j2, q2, f1, f2, rfl, rfl⟩ := h2
        have hr2 := List.pairwise_cons.1 (List.pairwise_cons.1 hr).2
        have hf := kids_fine hF (lo := k2) hr2.2 (fun x hx => ⟨lt_le (hr2.1 x hx), (hw x (by simp [hx])).2⟩) f2
        refine ⟨[], i1, j1, j2, [], p1, q1, q2, by simpa [loAt] using h1, by simpa [hiAt] using f1, by simp, by simp, ⟨by simp, fun x hx => ⟨k2, by simp [hiAt], (hf.2 x hx).1⟩⟩, fun R' hR v' M' P' hr => ?_, fun R' hR v1 v2 m M1' M2' P1' P2' h3 h4 => ?_⟩
        · exact ⟨M', P', j2, q2, by simpa [loAt, hiAt] using hr, by simpa using kids_mono hR f2, by simp, by simp⟩
        · exact ⟨M1', P1', M2' ++ j2, P2' ++ q2, by simpa [loAt] using h3, ⟨M2', P2', j2, q2, by simpa [hiAt] using h4, by simpa using kids_mono hR f2, rfl, rfl⟩, by simp, by simp⟩
  | succ c ih =>
    match ks, vs, h, hc, hr, hw with
    | k :: ks, v :: vs, h, hc, hr, hw =>
      obtain ⟨i1, p1, i2, p2, h1, h2, rfl, rfl⟩ := h
      have hr' := List.pairwise_cons.1 hr
      have hw' : ∀ x ∈ ks, Win k hi x := fun x hx => ⟨lt_le (hr'.1 x hx), (hw x (by simp [hx])).2⟩
      have hc' : c < ks.length := by simpa using hc
      obtain ⟨A, M1, M2, B, PA, P1, P2, PB, e1, e2, rfl, rfl, ap, e3, e4⟩ := ih hr'.2 hw' hc' h2
      have hl : loAt lo (k :: ks) (c + 1) = loAt k ks c := by cases c <;> simp [loAt]
      have hh : hiAt (k :: ks) hi (c + 1 + 1) = hiAt ks hi (c + 1) := by simp [hiAt]
      refine ⟨i1 ++ A, M1, M2, B, p1 ++ PA, P1, P2, PB, by rw [hl]; simpa using e1, by rw [hh]; simpa using e2, by simp, by simp, ⟨fun x hx => ?_, by rw [hh]; exact ap.B⟩, fun R' hR v' M' P' hr => ?_, fun R' hR v1 v2 m M1' M2' P1' P2' h3 h4 => ?_⟩
      · rw [hl]
        rcases List.mem_append.1 hx with hx | hx
        · exact lt_of_lt_le (((hF _ _ _ _ _ h1).2 x hx).2 k rfl) (lo_le hr'.2 hw' c (by omega))
        · exact ap.A x hx
      · rw [hl, hh] at hr
        exact ⟨i1, p1, _, _, hR _ _ _ _ _ h1, by simpa using e3 R' hR v' M' P' hr, by simp, by simp⟩
      · rw [hl] at h3; rw [hh] at h4
        exact ⟨i1, p1, _, _, hR _ _ _ _ _ h1, by simpa using e4 R' hR v1 v2 m M1' M2' P1' P2' h3 h4, by simp, by simp⟩

/-! ### how many -/
theorem kids_count {R : Rel} {m : Nat} (hR : ∀ v lo hi its pg, R v lo hi its pg → m ≤ its.length ∧ pg.length + 1 ≤ its.length) : ∀ {lo : Key} {ks : List Key} {hi : Option Key} {vs : List Int} {its : Its} {pg : List Int}, Kids R lo ks hi vs its pg →
    (ks.length + 1) * m ≤ its.length ∧ pg.length + (ks.length + 1) ≤ its.length
  | _, [], _, [], _, _, h => by simp [Kids] at h
  | _, [], _, [v], _, _, h => by have := hR _ _ _ _ _ h; simpa using this
  | _, [], _, v :: w :: vs, _, _, h => by simp [Kids] at h
  | _, k :: ks, _, [], _, _, h => by simp [Kids] at h
  | _, k :: ks, _, v :: vs, _, _, h => by
    obtain ⟨i1, p1, i2, p2, h1, h2, rfl, rfl⟩ := h
    have a := hR _ _ _ _ _ h1
    have b := kids_count hR h2
    simp only [List.length_append, List.length_cons]
    rw [Nat.add_mul (ks.length + 1) 1 m]
    omega
theorem tr_count (s : Sto) : ∀ (h : Nat) {p : Int} {lo : Key} {hi : Option Key} {its : Its} {pg : List Int}, Tr s h p lo hi its pg → 2 ^ (h + 1) ≤ its.length ∧ pg.length + 1 ≤ its.length
  | 0, p, lo, hi, its, pg, ht => by
    obtain ⟨n, pg', e1, e2, e3, ⟨h1, h2, h3, rfl, rfl⟩, rfl⟩ := ht
    simp only [full, h1, if_true] at e3
    have := e2.form
    simp only [h1, if_true] at this
    simp only [List.length_zip, List.length_cons, List.length_nil]; omega
  | h + 1, p, lo, hi, its, pg, ht => by
    obtain ⟨n, pg', e1, e2, e3, ⟨h1, h2, h3, h4⟩, rfl⟩ := ht
    have := kids_count (m := 2 ^ (h + 1)) (fun v lo hi its pg hr => tr_count s h hr) h4
    simp only [full, h1] at e3
    simp only [Bool.false_eq_true, if_false] at e3
    have h2 : 2 * 2 ^ (h + 1) ≤ (n.ks.length + 1) * 2 ^ (h + 1) := Nat.mul_le_mul_right _ (by omega)
    rw [Nat.pow_succ 2 (h + 1)]
    simp only [List.length_cons]
    omega
/-- .. of a root -/
theorem has_count (s : Sto) {h : Nat} {n : Nd} {lo : Key} {hi : Option Key} {its : Its} {pg : List Int} (hn : Right n) (h0 : 1 ≤ n.ks.length) (hh : Has s h n lo hi its pg) : 2 ^ h ≤ its.length ∧ pg.length + 1 ≤ its.length := by
  cases h with
  | zero =>
    obtain ⟨h1, h2, h3, rfl, rfl⟩ := hh
    have := hn.form
    simp only [h1, if_true] at this
    simp only [List.length_zip, List.length_nil]; omega
  | succ h =>
    obtain ⟨h1, h2, h3, h4⟩ := hh
    have := kids_count (m := 2 ^ (h + 1)) (fun v lo hi its pg hr => tr_count s h hr) h4
    have h2 : 1 * 2 ^ (h + 1) ≤ (n.ks.length + 1) * 2 ^ (h + 1) := Nat.mul_le_mul_right _ (by omega)
    omega
end Go.Tre

/-! part R04 -/
namespace Go.Tre

def bh (n : Nd) : Nat := if n.lf then 0 else 1
def insL (n : Nd) (i : Nat) (key : Key) (us : List Int) : Nd := ⟨n.lf, n.ks.take i ++ key :: n.ks.drop i, n.vs.take i ++ us ++ n.vs.drop (if n.lf then i else i + 1)⟩
def remL (n : Nd) (i : Nat) : Nd := ⟨n.lf, n.ks.take i ++ n.ks.drop (i + 1), n.vs.take (i + bh n) ++ n.vs.drop (i + bh n + 1)⟩
def fmN (n : Nd) : Bool := n.vs.length == n.ks.length + (if n.lf then 0 else 1)
def splA0 (n : Nd) : Nd := ⟨n.lf, n.ks.take (n.ks.length / 2), n.vs.take (n.ks.length / 2 + bh n)⟩
def splB0 (n : Nd) : Nd := ⟨n.lf, n.ks.drop (n.ks.length / 2 + bh n), n.vs.drop (n.ks.length / 2 + bh n)⟩
def splK0 (n : Nd) : Key := n.ks.getD (n.ks.length / 2) []
def splA (n : Nd) : Nd := if fmN n then splA0 n else n
def splB (n : Nd) : Nd := if fmN n then splB0 n else ⟨n.lf, [], []⟩
def splK (n : Nd) : Key := if fmN n then splK0 n else []
def merL (a : Nd) (key : Key) (b : Nd) : Nd := ⟨a.lf, a.ks ++ ((if a.lf then [] else [key]) ++ b.ks), a.vs ++ b.vs⟩
def withL (n : Nd) (c : Nat) (p : Int) : Nd := ⟨n.lf, n.ks, n.vs.set c p⟩
def Sto.add (s : Sto) (n : Nd) : Sto := ⟨s.nd ++ [n], s.th ++ [true], s.sv + 1, s.fl⟩
def Sto.save (s : Sto) (n : Nd) : Sto × Int × Int := if s.sv + 1 = s.fl then (⟨s.nd, s.th, s.sv + 1, s.fl⟩, 0, 30) else (s.add n, (s.nd.length + 1 : Nat), 0)
def Sto.N (s : Sto) : Nat := s.nd.length
def Sto.Wf (s : Sto) : Prop := s.th.length = s.nd.length

/-- pages more -/
structure Ext (s s' : Sto) : Prop where
  ex : ∃ X, s'.nd = s.nd ++ X ∧ s'.th = s.th ++ List.replicate X.length true
  fl : s'.fl = s.fl
  sv : s.sv ≤ s'.sv
theorem Ext.refl (s : Sto) : Ext s s := ⟨⟨[], by simp, by simp⟩, rfl, Int.le_refl _⟩
theorem Ext.trans {a b c : Sto} (h : Ext a b) (k : Ext b c) : Ext a c := by
  obtain ⟨⟨X, h1, h2⟩, h3, h4⟩ := h
  obtain ⟨⟨Y, k1, k2⟩, k3, k4⟩ := k
  exact ⟨⟨X ++ Y, by rw [k1, h1, List.append_assoc], by rw [k2, h2, List.append_assoc, List.length_append, List.replicate_append_replicate]⟩, k3.trans h3, Int.le_trans h4 k4⟩
theorem Ext.wf {s s' : Sto} (h : Ext s s') (w : s.Wf) : s'.Wf := by
  obtain ⟨⟨X, h1, h2⟩, _⟩ := h
  unfold Sto.Wf at *
  rw [h1, h2]; simp [w]
theorem Ext.N_le {s s' : Sto} (h : Ext s s') : s.N ≤ s'.N := by
  obtain ⟨⟨X, h1, _⟩, _⟩ := h
  unfold Sto.N; rw [h1]; simp
theorem Ext.get {s s' : Sto} (h : Ext s s') (w : s.Wf) {p : Int} {n : Nd} (e : s.get p = some n) : s'.get p = some n := by
  obtain ⟨⟨X, h1, h2⟩, _⟩ := h
  unfold Sto.Wf at w
  unfold Sto.get at *
  split at e
  · rename_i hc
    obtain ⟨c1, c2, c3⟩ := hc
    have hlt : p.toNat - 1 < s.nd.length := by omega
    rw [if_pos ⟨c1, by rw [h1]; simp; omega, by rw [h2]; simp only [List.getD_eq_getElem?_getD] at c3 ⊢; rw [List.getElem?_append_left (by omega)]; exact c3⟩]
    rw [h1, List.getElem?_append_left hlt]; exact e
  · cases e

theorem save_spec (s : Sto) (n : Nd) (w : s.Wf) : Ext s (s.save n).1 ∧ ((s.save n).2.2 = 30 ∧ (s.save n).1.N = s.N ∨ (s.save n).2.2 = 0 ∧ (s.save n).2.1 = (s.N + 1 : Nat) ∧ (s.save n).1.get (s.N + 1 : Nat) = some n ∧ (s.save n).1.N = s.N + 1) := by
  unfold Sto.save
  split
  · exact ⟨⟨⟨[], by simp, by simp⟩, rfl, by simp only; omega⟩, .inl ⟨rfl, rfl⟩⟩
  · refine ⟨⟨⟨[n], rfl, rfl⟩, rfl, by simp only [Sto.add]; omega⟩, .inr ⟨rfl, rfl, ?_, by simp [Sto.N, Sto.add]⟩⟩
    unfold Sto.Wf at w
    unfold Sto.get Sto.add Sto.N
    simp only [List.length_append, List.length_cons, List.length_nil, List.getD_eq_getElem?_getD]
    rw [if_pos ⟨by omega, by omega, by rw [show ((s.nd.length + 1 : Nat) : Int).toNat - 1 = s.th.length by omega]; simp⟩]
    rw [show ((s.nd.length + 1 : Nat) : Int).toNat - 1 = s.nd.length by omega]; simp
theorem save_ok (s : Sto) (n : Nd) (h : s.fl = 0) (h2 : 0 ≤ s.sv) : (s.save n).2.2 = 0 := by
  unfold Sto.save; rw [if_neg (by omega)]

/-- the pages that were added -/
def cr (n m : Nat) (a : Int) : Nat := if (n : Int) < a ∧ a ≤ (m : Int) then 1 else 0
theorem cr_self (n : Nat) (a : Int) : cr n n a = 0 := by unfold cr; rw [if_neg (by omega)]
theorem cr_add {n m k : Nat} (h : n ≤ m) (h2 : m ≤ k) (a : Int) : cr n k a = cr n m a + cr m k a := by
  unfold cr; split <;> split <;> split <;> omega
theorem cr_one (n : Nat) (a : Int) : cr n (n + 1) a = [((n + 1 : Nat) : Int)].count a := by
  unfold cr
  simp only [List.count_cons, List.count_nil, beq_iff_eq]
  split <;> split <;> omega

def putM (s : Sto) (n : Nd) : Sto × List Int × Key × Int :=
  if n.ks.length ≤ 4 then ((s.save n).1, [(s.save n).2.1], [], (s.save n).2.2)
  else if (s.save (splA n)).2.2 = 0 then (((s.save (splA n)).1.save (splB n)).1, [(s.save (splA n)).2.1, ((s.save (splA n)).1.save (splB n)).2.1], splK n, ((s.save (splA n)).1.save (splB n)).2.2)
  else ((s.save (splA n)).1, [], [], (s.save (splA n)).2.2)

/-- what became of a node: a page, or two with a key between -/
def One (s : Sto) (h : Nat) (lo : Key) (hi : Option Key) (its : Its) (pgs : List Int) (pages : List Int) (n : Nd) : Prop :=
  ∃ p pg, pages = [p] ∧ s.get p = some n ∧ Right n ∧ Has s h n lo hi its pg ∧ pgs = p :: pg
def Two (s : Sto) (h : Nat) (lo : Key) (hi : Option Key) (its : Its) (pgs : List Int) (pages : List Int) (key : Key) : Prop :=
  ∃ p q i1 i2 p1 p2, pages = [p, q] ∧ Tr s h p lo (some key) i1 p1 ∧ Tr s h q key hi i2 p2 ∧ its = i1 ++ i2 ∧ pgs = p1 ++ p2 ∧ kOk key ∧ lt lo key ∧ ∀ x, hi = some x → lt key x

theorem ris_take {ks : List Key} (h : Ris ks) (i : Nat) : Ris (ks.take i) := List.Pairwise.sublist (List.take_sublist _ _) h
theorem ris_drop {ks : List Key} (h : Ris ks) (i : Nat) : Ris (ks.drop i) := List.Pairwise.sublist (List.drop_sublist _ _) h

theorem ext_has {s s' : Sto} (e : Ext s s') (w : s.Wf) {h : Nat} {n : Nd} {lo : Key} {hi : Option Key} {its : Its} {pg : List Int} (hh : Has s h n lo hi its pg) : Has s' h n lo hi its pg :=
  has_mono (Q := fun _ => True) (fun _ _ _ hg => e.get w hg) h hh fun _ _ => trivial
theorem ext_tr {s s' : Sto} (e : Ext s s') (w : s.Wf) {h : Nat} : ∀ v lo hi its pg, Tr s h v lo hi its pg → Tr s' h v lo hi its pg := fun _ _ _ _ _ ht =>
  tr_mono (Q := fun _ => True) (fun _ _ _ hg => e.get w hg) ht fun _ _ => trivial

/-- the halves of a node of five keys -/
theorem split_law {s : Sto} {h : Nat} {n : Nd} {lo : Key} {hi : Option Key} {its : Its} {pg : List Int} (hh : Has s h n lo hi its pg) (h5 : n.ks.length = 5) :
    Right (splA0 n) ∧ full (splA0 n) ∧ Right (splB0 n) ∧ full (splB0 n) ∧ kOk (splK0 n) ∧ lt lo (splK0 n) ∧ (∀ x, hi = some x → lt (splK0 n) x) ∧
    ∃ i1 i2 p1 p2, Has s h (splA0 n) lo (some (splK0 n)) i1 p1 ∧ Has s h (splB0 n) (splK0 n) hi i2 p2 ∧ its = i1 ++ i2 ∧ pg = p1 ++ p2 := by
  have hL : Loose n := by cases h <;> exact hh.2.1
  have hW : ∀ k ∈ n.ks, Win lo hi k := by cases h <;> exact hh.2.2.1
  have e2 : n.ks.length / 2 = 2 := by omega
  have ek : splK0 n = n.ks[2]'(by omega) := by unfold splK0; rw [e2, List.getD_eq_getElem?_getD, List.getElem?_eq_getElem (by omega)]; rfl
  have hk2 : n.ks[2]'(by omega) ∈ n.ks := List.getElem_mem _
  have hb : bh n ≤ 1 := by unfold bh; split <;> omega
  have hf := hL.form
  have hf' : n.vs.length = 5 + bh n := by rw [hf, h5]; unfold bh; split <;> rfl
  have lA : (splA0 n).ks.length = 2 := by simp [splA0, e2]; omega
  have lB : (splB0 n).ks.length = 5 - (2 + bh n) := by simp [splB0, e2, h5]
  have vA : (splA0 n).vs.length = 2 + bh n := by simp [splA0, e2]; omega
  have vB : (splB0 n).vs.length = 5 + bh n - (2 + bh n) := by simp [splB0, e2, hf']
  have fA : bh (splA0 n) = bh n := rfl
  have fB : bh (splB0 n) = bh n := rfl
  have LA : Loose (splA0 n) := ⟨ris_take hL.ris _, fun k hk => hL.keys k (List.mem_of_mem_take hk), fun v hv => hL.vals v (List.mem_of_mem_take hv), by
    rw [vA, lA]; show _ = 2 + (if n.lf then 0 else 1); unfold bh; rfl⟩
  have LB : Loose (splB0 n) := ⟨ris_drop hL.ris _, fun k hk => hL.keys k (List.mem_of_mem_drop hk), fun v hv => hL.vals v (List.mem_of_mem_drop hv), by
    rw [vB, lB]; show _ = _ + (if n.lf then 0 else 1); unfold bh; split <;> omega⟩
  have RA : Right (splA0 n) := ⟨LA.ris, LA.keys, LA.vals, by omega, LA.form, fun _ => by omega⟩
  have RB : Right (splB0 n) := ⟨LB.ris, LB.keys, LB.vals, by omega, LB.form, fun _ => by omega⟩
  have lo2 : lt lo (splK0 n) := by
    rw [ek]
    exact le_lt (hW _ (List.getElem_mem (show 0 < n.ks.length by omega))).1 (ris_get hL.ris (by omega) (by omega))
  refine ⟨RA, ?_, RB, ?_, by rw [ek]; exact hL.keys _ hk2, lo2, fun x hx => by rw [ek]; exact (hW _ hk2).2 x hx, ?_⟩
  · unfold full; rw [lA]; split <;> omega
  · unfold full; rw [lB]; show (if n.lf then 2 else 1) ≤ _; unfold bh; split <;> simp_all
  have hWA : ∀ k ∈ (splA0 n).ks, Win lo (some (splK0 n)) k := fun k hk => by
    refine ⟨(hW k (List.mem_of_mem_take hk)).1, fun x hx => ?_⟩
    injection hx with hx; subst hx
    rw [ek]
    have hk' : k ∈ n.ks.take 2 := by simpa [splA0, e2] using hk
    obtain ⟨j, hj, rfl⟩ := List.getElem_of_mem hk'
    simp only [List.length_take] at hj
    rw [List.getElem_take]
    exact ris_get hL.ris (by omega) (by omega)
  have hWB : ∀ k ∈ (splB0 n).ks, Win (splK0 n) hi k := fun k hk => by
    refine ⟨?_, (hW k (List.mem_of_mem_drop hk)).2⟩
    rw [ek]
    have hk' : k ∈ n.ks.drop (2 + bh n) := by simpa [splB0, e2] using hk
    obtain ⟨j, hj, rfl⟩ := List.getElem_of_mem hk'
    simp only [List.length_drop] at hj
    rw [List.getElem_drop]
    rcases Nat.eq_zero_or_pos (bh n + j) with h0 | h0
    · have : 2 + bh n + j = 2 := by omega
      simp only [this]; exact le_refl _
    · exact lt_le (ris_get hL.ris (by omega) (by omega))
  cases h with
  | zero =>
    obtain ⟨h1, h2, h3, rfl, rfl⟩ := hh
    have hb0 : bh n = 0 := by unfold bh; rw [h1]; rfl
    refine ⟨_, _, [], [], ⟨h1, LA, hWA, rfl, rfl⟩, ⟨h1, LB, hWB, rfl, rfl⟩, ?_, rfl⟩
    show n.ks.zip n.vs = (n.ks.take _).zip (n.vs.take _) ++ (n.ks.drop _).zip (n.vs.drop _)
    rw [hb0, Nat.add_zero]; simp only [List.zip, ← List.take_zipWith, ← List.drop_zipWith, List.take_append_drop]
  | succ h =>
    obtain ⟨h1, h2, h3, h4⟩ := hh
    have hb0 : bh n = 1 := by unfold bh; rw [h1]; rfl
    obtain ⟨i1, i2, p1, p2, k1, k2, k3, k4⟩ := kids_split 2 (by omega) h4
    refine ⟨i1, i2, p1, p2, ⟨h1, LA, hWA, ?_⟩, ⟨h1, LB, hWB, ?_⟩, k3, k4⟩
    · have : (splA0 n).ks = n.ks.take 2 ∧ (splA0 n).vs = n.vs.take 3 := by simp [splA0, e2, hb0]
      rw [this.1, this.2, ek]; exact k1
    · have : (splB0 n).ks = n.ks.drop 3 ∧ (splB0 n).vs = n.vs.drop 3 := by simp [splB0, e2, hb0]
      rw [this.1, this.2, ek]; exact k2

theorem put_law {s : Sto} {h : Nat} {n : Nd} {lo : Key} {hi : Option Key} {its : Its} {pg : List Int} (w : s.Wf) (hh : Has s h n lo hi its pg) (h5 : n.ks.length ≤ 5) (h1 : n.lf = false → 1 ≤ n.ks.length) :
    Ext s (putM s n).1 ∧ ((putM s n).2.2.2 = 30 ∨ (putM s n).2.2.2 = 0 ∧ ∃ pgs, (One (putM s n).1 h lo hi its pgs (putM s n).2.1 n ∨ Two (putM s n).1 h lo hi its pgs (putM s n).2.1 (putM s n).2.2.1) ∧
      ∀ a, pgs.count a = pg.count a + cr s.N (putM s n).1.N a) := by
  have hL : Loose n := by cases h <;> exact hh.2.1
  unfold putM
  split
  · rename_i h4
    obtain ⟨e, hs⟩ := save_spec s n w
    refine ⟨e, ?_⟩
    rcases hs with ⟨hs, _⟩ | ⟨s1, s2, s3, s4⟩
    · exact .inl hs
    · refine .inr ⟨s1, _, .inl ⟨_, pg, rfl, by simp only [s2]; exact s3, ⟨hL.ris, hL.keys, hL.vals, h4, hL.form, h1⟩, ext_has e w hh, rfl⟩, fun a => ?_⟩
      simp only
      rw [s4, cr_one, s2]
      simp only [List.count_cons, List.count_nil]; omega
  · rename_i h4
    have hh5 : n.ks.length = 5 := by omega
    have fm : fmN n = true := by unfold fmN; rw [hL.form]; simp
    have eA : splA n = splA0 n := by simp [splA, fm]
    have eB : splB n = splB0 n := by simp [splB, fm]
    have eK : splK n = splK0 n := by simp [splK, fm]
    obtain ⟨RA, FA, RB, FB, kk, kl, kh, i1, i2, p1, p2, HA, HB, hi', hp⟩ := split_law hh hh5
    rw [← eA] at RA FA HA
    rw [← eB] at RB FB HB
    rw [← eK] at kk kl kh HA HB
    obtain ⟨e, hs⟩ := save_spec s (splA n) w
    split
    · rename_i he
      rcases hs with ⟨hs, _⟩ | ⟨s1, s2, s3, s4⟩
      · rw [hs] at he; cases he
      have w1 := e.wf w
      obtain ⟨e', ht⟩ := save_spec (s.save (splA n)).1 (splB n) w1
      refine ⟨e.trans e', ?_⟩
      rcases ht with ⟨ht, _⟩ | ⟨t1, t2, t3, t4⟩
      · exact .inl ht
      · refine .inr ⟨t1, ?_⟩
        simp only
        have EA := ext_has (e.trans e') w HA
        have EB := ext_has (e.trans e') w HB
        refine ⟨_, .inr ⟨_, _, i1, i2, _, _, rfl, ⟨_, p1, by rw [s2]; exact e'.get w1 s3, RA, FA, EA, rfl⟩, ⟨_, p2, by rw [t2]; exact t3, RB, FB, EB, rfl⟩, hi', rfl, kk, kl, kh⟩, fun a => ?_⟩
        rw [t2, s2, t4, s4, hp, cr_add (m := s.N + 1) (by omega) (by omega), cr_one, cr_one]
        simp only [List.cons_append, List.count_cons, List.count_append, List.count_nil]; omega
    · rename_i he
      rcases hs with ⟨hs, _⟩ | ⟨s1, s2, s3, s4⟩
      · exact ⟨e, .inl hs⟩
      · exact absurd s1 he
end Go.Tre

/-! part R05 -/
namespace Go.Tre

structure Step where
  n : Nd
  p : Int
  c : Nat
  deriving Inhabited

def childM (n : Nd) (key : Key) : Nat := (n.ks.takeWhile fun k => !Op.bytesLess key k).length
def findM (n : Nd) (key : Key) : Nat := (n.ks.takeWhile fun k => Op.bytesLess k key).length
def hadM (n : Nd) (key : Key) : Bool := n.ks[findM n key]? == some key

/-- the way to a key's place -/
inductive Path (s : Sto) (key : Key) : Nat → Int → List Step → Step → Prop
  | leaf {p : Int} {n : Nd} (h : s.get p = some n) (hr : Right n) (hl : n.lf = true) : Path s key 0 p [] ⟨n, p, childM n key⟩
  | inner {h : Nat} {p : Int} {n : Nd} {l : List Step} {x : Step} (hg : s.get p = some n) (hr : Right n) (hl : n.lf = false) (hp : Path s key h (n.vs.getD (childM n key) 0) l x) : Path s key (h + 1) p (⟨n, p, childM n key⟩ :: l) x

theorem tw_spec {α : Type} (q : α → Bool) (l : List α) : (∀ x ∈ l.take (l.takeWhile q).length, q x = true) ∧ ∀ h : (l.takeWhile q).length < l.length, q l[(l.takeWhile q).length] = false := by
  induction l with
  | nil => simp
  | cons x l ih =>
    by_cases c : q x = true
    · simp only [List.takeWhile_cons, c, if_true, List.length_cons, List.take_succ_cons, List.mem_cons, forall_eq_or_imp, List.getElem_cons_succ, true_and]
      exact ⟨ih.1, fun h => ih.2 (by omega)⟩
    · simp only [List.takeWhile_cons, c, Bool.false_eq_true, if_false, List.length_nil, List.take_zero, List.getElem_cons_zero]
      exact ⟨fun _ h => by simp at h, fun _ => by simpa using c⟩
theorem tw_le {α : Type} (q : α → Bool) (l : List α) : (l.takeWhile q).length ≤ l.length := (List.takeWhile_sublist _).length_le
theorem take_get {α : Type} {l : List α} {i k : Nat} (h : i < k) (hi : i < l.length) : l[i] ∈ l.take k := by
  have : (l.take k)[i]? = some l[i] := by rw [List.getElem?_take, if_pos h, List.getElem?_eq_getElem hi]
  exact List.mem_of_getElem? this

theorem child_win {ks : List Key} {lo : Key} {hi : Option Key} {key : Key} {n : Nd} (hn : n.ks = ks) (hk : Win lo hi key) : Win (loAt lo ks (childM n key)) (hiAt ks hi (childM n key)) key := by
  subst hn
  obtain ⟨h1, h2⟩ := tw_spec (fun k => !Op.bytesLess key k) n.ks
  have hle := tw_le (fun k => !Op.bytesLess key k) n.ks
  unfold childM
  generalize hc : (n.ks.takeWhile fun k => !Op.bytesLess key k).length = c at *
  constructor
  · cases c with
    | zero => exact hk.1
    | succ c =>
      simp only [loAt, List.getD_eq_getElem?_getD]
      rw [List.getElem?_eq_getElem (by omega)]
      have := h1 _ (take_get (show c < c + 1 by omega) (by omega))
      simp only [Option.getD_some, le, lt]
      simpa using this
  · intro x hx
    unfold hiAt at hx
    rcases Nat.lt_or_ge c n.ks.length with h | h
    · rw [List.getElem?_eq_getElem h] at hx
      injection hx with hx; subst hx
      have := h2 h
      simpa [lt] using this
    · rw [List.getElem?_eq_none h] at hx
      exact hk.2 x hx

/-! ### a leaf -/
theorem place_zip (key : Key) : ∀ {ks : List Key} {vs : List Int}, vs.length = ks.length → place (ks.zip vs) key = (ks.takeWhile fun k => Op.bytesLess k key).length
  | [], _, _ => by simp [place]
  | _ :: _, [], h => by simp at h
  | k :: ks, v :: vs, h => by
    have ih := place_zip key (ks := ks) (vs := vs) (by simpa using h)
    unfold place at *
    simp only [List.zip_cons_cons, List.takeWhile_cons]
    split
    · simp [ih]
    · rfl
theorem zip_get {ks : List Key} {vs : List Int} {i : Nat} (h : vs.length = ks.length) (hi : i < ks.length) : (ks.zip vs)[i]? = some (ks[i], vs[i]'(by omega)) := by
  rw [List.getElem?_zip_eq_some]
  simp [hi, h]
theorem found_zip {n : Nd} (h : n.vs.length = n.ks.length) (key : Key) : found (n.ks.zip n.vs) key = hadM n key := by
  unfold found hadM findM
  rw [place_zip key h]
  generalize (n.ks.takeWhile fun k => Op.bytesLess k key).length = i
  rcases Nat.lt_or_ge i n.ks.length with hi | hi
  · rw [zip_get h hi, List.getElem?_eq_getElem hi]; simp
  · rw [List.getElem?_eq_none (by simp; omega), List.getElem?_eq_none hi]; rfl
theorem had_lt {n : Nd} {key : Key} (h : hadM n key = true) : ∃ hi : findM n key < n.ks.length, n.ks[findM n key] = key := by
  unfold hadM at h
  rcases Nat.lt_or_ge (findM n key) n.ks.length with hi | hi
  · rw [List.getElem?_eq_getElem hi] at h; exact ⟨hi, by simpa using h⟩
  · rw [List.getElem?_eq_none hi] at h; cases h
theorem val_zip {n : Nd} (h : n.vs.length = n.ks.length) (key : Key) (hh : hadM n key = true) : valAt (n.ks.zip n.vs) key = n.vs.getD (findM n key) 0 := by
  obtain ⟨hi, _⟩ := had_lt hh
  unfold valAt
  rw [place_zip key h]
  show (match (n.ks.zip n.vs)[findM n key]? with | some x => x.2 | none => 0) = _
  rw [zip_get h hi]
  simp [List.getD_eq_getElem?_getD, show findM n key < n.vs.length by omega]

/-- a leaf, with the key put in -/
def putLf (n : Nd) (key : Key) (v : Int) : Nd := insL (if hadM n key then remL n (findM n key) else n) (findM n key) key [v]

theorem findM_le (n : Nd) (key : Key) : findM n key ≤ n.ks.length := tw_le _ _

theorem putLf_eq {n : Nd} (hl : n.lf = true) (hf : n.vs.length = n.ks.length) (key : Key) (v : Int) :
    putLf n key v = ⟨true, n.ks.take (findM n key) ++ key :: n.ks.drop (if hadM n key then findM n key + 1 else findM n key), n.vs.take (findM n key) ++ v :: n.vs.drop (if hadM n key then findM n key + 1 else findM n key)⟩ := by
  have hle := findM_le n key
  unfold putLf
  by_cases hh : hadM n key = true
  · simp only [hh, if_true, insL, remL, bh, hl, Nat.add_zero]
    have a1 : (n.ks.take (findM n key) ++ n.ks.drop (findM n key + 1)).take (findM n key) = n.ks.take (findM n key) := List.take_left' (by simp; omega)
    have a2 : (n.ks.take (findM n key) ++ n.ks.drop (findM n key + 1)).drop (findM n key) = n.ks.drop (findM n key + 1) := List.drop_left' (by simp; omega)
    have b1 : (n.vs.take (findM n key) ++ n.vs.drop (findM n key + 1)).take (findM n key) = n.vs.take (findM n key) := List.take_left' (by simp; omega)
    have b2 : (n.vs.take (findM n key) ++ n.vs.drop (findM n key + 1)).drop (findM n key) = n.vs.drop (findM n key + 1) := List.drop_left' (by simp; omega)
    rw [a1, a2, b1, b2]; simp
  · have hh' : hadM n key = false := by simpa using hh
    simp [hh', insL, hl]

theorem leaf_law {s : Sto} {n : Nd} {lo : Key} {hi : Option Key} {its : Its} {pg : List Int} {key : Key} {v : Int} (h4 : n.ks.length ≤ 4) (hh : Has s 0 n lo hi its pg) (hw : Win lo hi key) (hk : kOk key) (hv : vOk v) :
    Has s 0 (putLf n key v) lo hi (rput its key v) [] ∧ (putLf n key v).ks.length ≤ 5 ∧ n.ks.length ≤ (putLf n key v).ks.length ∧ 1 ≤ (putLf n key v).ks.length := by
  obtain ⟨h1, h2, h3, rfl, rfl⟩ := hh
  have hf : n.vs.length = n.ks.length := by have := h2.form; rw [h1] at this; simpa using this
  have hle := findM_le n key
  obtain ⟨t1, t2⟩ := tw_spec (fun k => Op.bytesLess k key) n.ks
  change (∀ x ∈ n.ks.take (findM n key), _) at t1
  change (∀ h : findM n key < n.ks.length, Op.bytesLess n.ks[findM n key] key = false) at t2
  have e := putLf_eq h1 hf key v
  obtain ⟨j, hj⟩ : ∃ j, j = if hadM n key then findM n key + 1 else findM n key := ⟨_, rfl⟩
  rw [← hj] at e
  have hj1 : findM n key ≤ j := by rw [hj]; split <;> omega
  have hjl : j ≤ n.ks.length := by rw [hj]; split; · rename_i hh; have := (had_lt hh).1; omega
                                   · exact hle
  have hj2 : j ≤ findM n key + 1 := by rw [hj]; split <;> omega
  have behind : ∀ k ∈ n.ks.drop j, lt key k := fun k hk => by
    obtain ⟨i, hi, rfl⟩ := List.getElem_of_mem hk
    simp only [List.length_drop] at hi
    rw [List.getElem_drop]
    by_cases hh : hadM n key = true
    · obtain ⟨q1, q2⟩ := had_lt hh
      rw [if_pos hh] at hj
      have := ris_get h2.ris (show findM n key < j + i by omega) (by omega)
      rwa [q2] at this
    · rw [if_neg hh] at hj
      have hlt : findM n key < n.ks.length := by omega
      have b1 : le key n.ks[findM n key] := by have := t2 hlt; simpa [lt] using this
      have b2 : lt key n.ks[findM n key] := by
        rcases nlt b1 with e1 | e1
        · exfalso
          apply hh
          unfold hadM; rw [List.getElem?_eq_getElem hlt, e1]; simp
        · exact e1
      rcases Nat.eq_zero_or_pos i with h0 | h0
      · subst h0; simp only [hj, Nat.add_zero]; exact b2
      · exact lt_trans b2 (ris_get h2.ris (by omega) (by omega))
  have hm : ∀ k ∈ (putLf n key v).ks, k = key ∨ k ∈ n.ks := fun k hk => by
    rw [e] at hk
    rcases List.mem_append.1 hk with h | h
    · exact .inr (List.mem_of_mem_take h)
    · rcases List.mem_cons.1 h with h | h
      · exact .inl h
      · exact .inr (List.mem_of_mem_drop h)
  have hl : (putLf n key v).ks.length = n.ks.length + 1 - (j - findM n key) := by rw [e]; simp; omega
  refine ⟨⟨by rw [e], ⟨?_, fun k hk' => ?_, fun u hu => ?_, ?_⟩, fun k hk' => ?_, ?_, rfl⟩, by omega, by omega, by omega⟩
  · rw [e]
    refine List.pairwise_append.2 ⟨ris_take h2.ris _, List.pairwise_cons.2 ⟨behind, ris_drop h2.ris _⟩, fun a ha b hb => ?_⟩
    have ha' := t1 a ha
    rcases List.mem_cons.1 hb with rfl | hb
    · exact ha'
    · exact lt_trans ha' (behind b hb)
  · rcases hm k hk' with rfl | h
    · exact hk
    · exact h2.keys k h
  · rw [e] at hu
    rcases List.mem_append.1 hu with h | h
    · exact h2.vals u (List.mem_of_mem_take h)
    · rcases List.mem_cons.1 h with rfl | h
      · exact hv
      · exact h2.vals u (List.mem_of_mem_drop h)
  · rw [e]; simp; omega
  · rcases hm k hk' with rfl | h
    · exact hw
    · exact h3 k h
  · rw [e]
    unfold rput
    rw [found_zip hf, place_zip key hf]
    change List.take (findM n key) _ ++ _ :: List.drop (if hadM n key = true then findM n key + 1 else findM n key) _ = _
    rw [← hj, List.zip_append (by simp; omega), List.zip_cons_cons]
    simp only [List.zip, ← List.take_zipWith, ← List.drop_zipWith]
end Go.Tre

/-! part R06 -/
namespace Go.Tre

structure Up where
  s : Sto
  old : List Int
  pg : List Int
  key : Key
  e : Int

def upN (st : Step) (pg : List Int) (key : Key) : Nd := if pg.length = 2 then insL st.n st.c key pg else withL st.n st.c (pg.getD 0 0)
def upF (st : Step) (u : Up) : Up := if u.e = 0 then ⟨(putM u.s (upN st u.pg u.key)).1, u.old ++ [st.p], (putM u.s (upN st u.pg u.key)).2.1, (putM u.s (upN st u.pg u.key)).2.2.1, (putM u.s (upN st u.pg u.key)).2.2.2⟩ else u
def leafUp (s : Sto) (n : Nd) (old : List Int) (key : Key) (v : Int) : Up := ⟨(putM s (putLf n key v)).1, old, (putM s (putLf n key v)).2.1, (putM s (putLf n key v)).2.2.1, (putM s (putLf n key v)).2.2.2⟩
def upAll (s : Sto) (l : List Step) (x : Step) (key : Key) (v : Int) : Up := l.foldr upF (leafUp s x.n [x.p] key v)

theorem get_bound {s : Sto} {p : Int} {n : Nd} (h : s.get p = some n) : 1 ≤ p ∧ p ≤ s.N := by
  unfold Sto.get at h
  split at h
  · rename_i hc; exact ⟨hc.1, hc.2.1⟩
  · cases h
theorem save_N (s : Sto) (n : Nd) : (s.save n).1.N ≤ s.N + 1 := by
  unfold Sto.save; split
  · simp [Sto.N]
  · simp [Sto.N, Sto.add]
theorem putM_N (s : Sto) (n : Nd) : (putM s n).1.N ≤ s.N + 2 := by
  unfold putM
  have a := save_N s n
  have b := save_N s (splA n)
  have c := save_N (s.save (splA n)).1 (splB n)
  split
  · simp only; omega
  · split <;> simp only <;> omega

theorem win_loose {lo : Key} {hi : Option Key} {c : Nat} {ks : List Key} {m : Key} (hw : ∀ k ∈ ks, Win lo hi k) (hr : Ris ks) (hc : c ≤ ks.length) (h1 : lt (loAt lo ks c) m) (h2 : ∀ x, hiAt ks hi c = some x → lt m x) :
    Ris (ks.take c ++ m :: ks.drop c) ∧ Win lo hi m := by
  have B : ∀ k ∈ ks.drop c, lt m k := fun k hk => by
    obtain ⟨i, hi, rfl⟩ := List.getElem_of_mem hk
    simp only [List.length_drop] at hi
    rw [List.getElem_drop]
    have h3 := h2 ks[c] (by simp [hiAt, List.getElem?_eq_getElem (show c < ks.length by omega)])
    rcases Nat.eq_zero_or_pos i with h0 | h0
    · subst h0; exact h3
    · exact lt_trans h3 (ris_get hr (by omega) (by omega))
  have A : ∀ k ∈ ks.take c, lt k m := fun k hk => by
    obtain ⟨i, hi, rfl⟩ := List.getElem_of_mem hk
    simp only [List.length_take] at hi
    rw [List.getElem_take]
    cases c with
    | zero => omega
    | succ c =>
      simp only [loAt, List.getD_eq_getElem?_getD] at h1
      rw [List.getElem?_eq_getElem (by omega)] at h1
      simp only [Option.getD_some] at h1
      rcases Nat.lt_or_ge i c with h0 | h0
      · exact lt_trans (ris_get hr h0 (by omega)) h1
      · have : i = c := by omega
        subst this; exact h1
  refine ⟨List.pairwise_append.2 ⟨ris_take hr _, List.pairwise_cons.2 ⟨B, ris_drop hr _⟩, fun a ha b hb => ?_⟩, lt_le (le_lt (lo_le hr hw c hc) h1), fun x hx => ?_⟩
  · rcases List.mem_cons.1 hb with rfl | hb
    · exact A a ha
    · exact lt_trans (A a ha) (B b hb)
  · rcases Nat.lt_or_ge c ks.length with h | h
    · have h3 := h2 ks[c] (by simp [hiAt, List.getElem?_eq_getElem h])
      exact lt_trans h3 ((hw _ (List.getElem_mem h)).2 x hx)
    · exact h2 x (by simp [hiAt, List.getElem?_eq_none h, hx])

/-- the node above, with what became of its child -/
theorem up_one {s : Sto} {h : Nat} {n : Nd} {lo : Key} {hi : Option Key} {c : Nat} {p : Int} {I : Its} {P : List Int} (hn : Loose n) (hl : n.lf = false) (hw : ∀ k ∈ n.ks, Win lo hi k) (hv : vOk p)
    (hk : Kids (Tr s h) lo n.ks hi (n.vs.set c p) I P) : Has s (h + 1) (withL n c p) lo hi I P := by
  refine ⟨hl, ⟨hn.ris, hn.keys, fun v hv' => ?_, by show (n.vs.set c p).length = _; rw [List.length_set]; exact hn.form⟩, hw, hk⟩
  rcases List.mem_or_eq_of_mem_set hv' with h | h
  · exact hn.vals v h
  · rw [h]; exact hv
theorem up_two {s : Sto} {h : Nat} {n : Nd} {lo : Key} {hi : Option Key} {c : Nat} {p q : Int} {m : Key} {I : Its} {P : List Int} (hn : Loose n) (hl : n.lf = false) (hw : ∀ k ∈ n.ks, Win lo hi k) (hp : vOk p) (hq : vOk q) (hm : kOk m) (hc : c ≤ n.ks.length)
    (h1 : lt (loAt lo n.ks c) m) (h2 : ∀ x, hiAt n.ks hi c = some x → lt m x)
    (hk : Kids (Tr s h) lo (n.ks.take c ++ m :: n.ks.drop c) hi (n.vs.take c ++ [p, q] ++ n.vs.drop (c + 1)) I P) : Has s (h + 1) (insL n c m [p, q]) lo hi I P := by
  obtain ⟨r1, r2⟩ := win_loose hw hn.ris hc h1 h2
  have hf := hn.form
  rw [hl] at hf
  simp only [Bool.false_eq_true, if_false] at hf
  refine ⟨hl, ⟨r1, fun k hk => ?_, fun v hv => ?_, ?_⟩, fun k hk => ?_, ?_⟩
  · rcases List.mem_append.1 hk with h | h
    · exact hn.keys k (List.mem_of_mem_take h)
    · rcases List.mem_cons.1 h with rfl | h
      · exact hm
      · exact hn.keys k (List.mem_of_mem_drop h)
  · simp only [insL, hl, Bool.false_eq_true, if_false, List.mem_append, List.mem_cons, List.not_mem_nil, or_false] at hv
    rcases hv with (h | h | h) | h
    · exact hn.vals v (List.mem_of_mem_take h)
    · rw [h]; exact hp
    · rw [h]; exact hq
    · exact hn.vals v (List.mem_of_mem_drop h)
  · simp only [insL, hl, Bool.false_eq_true, if_false, List.length_append, List.length_take, List.length_cons, List.length_nil, List.length_drop]; omega
  · rcases List.mem_append.1 hk with h | h
    · exact hw k (List.mem_of_mem_take h)
    · rcases List.mem_cons.1 h with rfl | h
      · exact r2
      · exact hw k (List.mem_of_mem_drop h)
  · have e : insL n c m [p, q] = ⟨n.lf, n.ks.take c ++ m :: n.ks.drop c, n.vs.take c ++ [p, q] ++ n.vs.drop (c + 1)⟩ := by simp [insL, hl]
    rw [e]; exact hk

theorem childM_le (n : Nd) (key : Key) : childM n key ≤ n.ks.length := tw_le _ _

theorem path_put {s : Sto} {key : Key} {v : Int} (w : s.Wf) (hk : kOk key) (hv : vOk v) : ∀ {h : Nat} {p : Int} {l : List Step} {x : Step}, Path s key h p l x → s.N + 2 * (h + 1) < 1099511627776 → ∀ {n : Nd} {lo : Key} {hi : Option Key} {its : Its} {pg : List Int}, s.get p = some n → Has s h n lo hi its pg → Win lo hi key →
    Ext s (upAll s l x key v).s ∧ (upAll s l x key v).s.N ≤ s.N + 2 * (h + 1) ∧ ((upAll s l x key v).e = 30 ∨ (upAll s l x key v).e = 0 ∧ ∃ pgs n',
      (One (upAll s l x key v).s h lo hi (rput its key v) pgs (upAll s l x key v).pg n' ∧ n.ks.length ≤ n'.ks.length ∨ Two (upAll s l x key v).s h lo hi (rput its key v) pgs (upAll s l x key v).pg (upAll s l x key v).key) ∧
      ∀ a, pgs.count a + (upAll s l x key v).old.count a = (p :: pg).count a + cr s.N (upAll s l x key v).s.N a) := by
  intro h p l x hP
  induction hP with
  | @leaf p m hg hr hl =>
    intro hN n lo hi its pg hgn hh hw
    rw [hg] at hgn; injection hgn with hgn; subst hgn
    obtain ⟨l1, l2, l3, l4⟩ := leaf_law hr.len hh hw hk hv
    obtain ⟨p1, p2⟩ := put_law w l1 l2 (fun _ => l4)
    have pN := putM_N s (putLf m key v)
    have hpg : pg = [] := hh.2.2.2.2
    refine ⟨p1, by simp only [upAll, List.foldr_nil, leafUp]; omega, ?_⟩
    rcases p2 with p2 | ⟨p2, pgs, p3, p4⟩
    · exact .inl p2
    · refine .inr ⟨p2, pgs, putLf m key v, ?_, fun a => ?_⟩
      · rcases p3 with p3 | p3
        · exact .inl ⟨p3, l3⟩
        · exact .inr p3
      · have := p4 a
        rw [hpg]
        simp only [upAll, List.foldr_nil, leafUp, List.count_nil] at this ⊢
        omega
  | @inner h p m l x hg hr hl hP ih =>
    intro hN n lo hi its pg hgn hh hw
    rw [hg] at hgn; injection hgn with hgn; subst hgn
    obtain ⟨_, hL, hW, hK⟩ := hh
    have hcw := child_win (n := m) rfl hw
    have hcl := childM_le m key
    -- the child
    obtain ⟨A, M, B, PA, PM, PB, ⟨cn, cpg, c1, c2, c3, c4, rfl⟩, rfl, rfl, ap, k1, k2⟩ := kids_at (tr_fine s h) (childM m key) hr.ris hW hcl hK
    obtain ⟨i1, i2, i3⟩ := ih (by omega) c1 c4 hcw
    have hu : upAll s (⟨m, p, childM m key⟩ :: l) x key v = upF ⟨m, p, childM m key⟩ (upAll s l x key v) := rfl
    rw [hu]
    generalize upAll s l x key v = u at *
    unfold upF
    rcases i3 with i3 | ⟨i3, pgs, n', i4, i5⟩
    · rw [if_neg (by rw [i3]; decide)]
      exact ⟨i1, by omega, .inl i3⟩
    rw [if_pos i3]
    simp only
    have w' := i1.wf w
    have hR := ext_tr i1 w (h := h)
    have hA : ∀ y ∈ A, lt y.1 key := fun y hy => lt_of_lt_le (ap.A y hy) hcw.1
    have hB : ∀ y ∈ B, lt key y.1 := fun y hy => by
      obtain ⟨k, e1, e2⟩ := ap.B y hy
      exact lt_of_lt_le (hcw.2 k e1) e2
    -- the node above as it is then
    have key1 : ∃ N, upN ⟨m, p, childM m key⟩ u.pg u.key = N ∧ Has u.s (h + 1) N lo hi (rput (A ++ M ++ B) key v) (PA ++ pgs ++ PB) ∧ N.ks.length ≤ 5 ∧ m.ks.length ≤ N.ks.length ∧ 1 ≤ N.ks.length := by
      rw [rput_mid hA hB]
      have h4 := hr.len
      have h1 := hr.inner hl
      rcases i4 with ⟨⟨q, qg, e1, e2, e3, e4, rfl⟩, e5⟩ | ⟨q, q', j1, j2, p1, p2, e1, e2, e3, e4, rfl, e6, e7, e8⟩
      · have hv' : vOk q := by have := get_bound e2; exact ⟨by omega, by omega⟩
        have hfl : full n' := by
          have : n'.lf = cn.lf := by cases h <;> rw [e4.1, c4.1]
          unfold full at c3 ⊢; rw [this]; omega
        refine ⟨withL m (childM m key) q, by simp [upN, e1], up_one hr.loose hl hW hv' (k1 _ hR q _ _ ⟨n', qg, e2, e3, hfl, e4, rfl⟩), by simp only [withL]; omega, by simp [withL], by simpa [withL] using h1⟩
      · obtain ⟨g1, _, g2, _⟩ := id e2
        obtain ⟨g3, _, g4, _⟩ := id e3
        have hv1 : vOk q := by have := get_bound g2; exact ⟨by omega, by omega⟩
        have hv2 : vOk q' := by have := get_bound g4; exact ⟨by omega, by omega⟩
        refine ⟨insL m (childM m key) u.key [q, q'], by simp [upN, e1], ?_, ?_, ?_, ?_⟩
        · rw [e4]
          exact up_two hr.loose hl hW hv1 hv2 e6 hcl e7 e8 (k2 _ hR q q' u.key _ _ _ _ e2 e3)
        · simp [insL]; omega
        · simp [insL]; omega
        · simp [insL]; omega
    obtain ⟨N, hNe, hNh, hN5, hNm, hN1⟩ := key1
    rw [hNe]
    obtain ⟨p1, p2⟩ := put_law w' hNh hN5 (fun _ => hN1)
    have pN := putM_N u.s N
    refine ⟨i1.trans p1, by omega, ?_⟩
    rcases p2 with p2 | ⟨p2, pgs', p3, p4⟩
    · exact .inl p2
    · refine .inr ⟨p2, pgs', N, ?_, fun a => ?_⟩
      · rcases p3 with p3 | p3
        · exact .inl ⟨p3, hNm⟩
        · exact .inr p3
      · have q1 := p4 a
        have q2 := i5 a
        have q3 := cr_add i1.N_le p1.N_le a
        simp only [List.count_append, List.count_cons, List.count_nil] at q1 q2 q3 ⊢
        omega
end Go.Tre

/-! part R07 -/
namespace Go.Tre

def risB : List Key → Bool
  | [] => true
  | [_] => true
  | a :: b :: l => Op.bytesLess a b && risB (b :: l)
def rB (n : Nd) : Bool := risB n.ks && n.ks.all (fun k => decide (1 ≤ k.length) && decide (k.length ≤ 100)) && n.vs.all (fun v => decide (0 ≤ v) && decide (v < 1099511627776)) && decide (n.ks.length ≤ 4) &&
  (n.vs.length == n.ks.length + (if n.lf then 0 else 1)) && (n.lf || decide (1 ≤ n.ks.length))
theorem risB_iff : ∀ (ks : List Key), risB ks = true ↔ Ris ks
  | [] => by simp [risB, Ris]
  | [_] => by simp [risB, Ris]
  | a :: b :: l => by
    have ih := risB_iff (b :: l)
    simp only [risB, Bool.and_eq_true, ih, Ris]
    constructor
    · rintro ⟨h1, h2⟩
      refine List.pairwise_cons.2 ⟨fun x hx => ?_, h2⟩
      rcases List.mem_cons.1 hx with rfl | hx
      · exact h1
      · exact lt_trans h1 ((List.pairwise_cons.1 h2).1 x hx)
    · intro h
      have := List.pairwise_cons.1 h
      exact ⟨this.1 b (by simp), this.2⟩
theorem rB_iff (n : Nd) : rB n = true ↔ Right n := by
  unfold rB
  simp only [Bool.and_eq_true, risB_iff, List.all_eq_true, decide_eq_true_eq, beq_iff_eq, Bool.or_eq_true]
  constructor
  · rintro ⟨⟨⟨⟨⟨h1, h2⟩, h3⟩, h4⟩, h5⟩, h6⟩
    refine ⟨h1, h2, h3, h4, h5, fun h => ?_⟩
    rw [h] at h6
    simpa using h6
  · intro h
    refine ⟨⟨⟨⟨⟨h.ris, h.keys⟩, h.vals⟩, h.len⟩, h.form⟩, ?_⟩
    cases hl : n.lf with
    | true => exact .inl rfl
    | false => exact .inr (h.inner hl)

def nd0 : Nd := ⟨false, [], []⟩
/-- a node of a page; the error -/
def tload (s : Sto) (p : Int) : Nd × Int := match s.get p with
  | none => (nd0, 33)
  | some n => if rB n = true then (n, 0) else (nd0, 10)
theorem tload_ok {s : Sto} {p : Int} {n : Nd} (h : s.get p = some n) (hr : Right n) : tload s p = (n, 0) := by
  unfold tload; rw [h]; simp [(rB_iff n).2 hr]
theorem tload_inv {s : Sto} {p : Int} (h : (tload s p).2 = 0) : s.get p = some (tload s p).1 ∧ Right (tload s p).1 := by
  unfold tload at *
  cases hg : s.get p with
  | none => rw [hg] at h; simp at h
  | some n =>
    rw [hg] at h
    by_cases hr : rB n = true
    · simp [hr, (rB_iff n).1 hr]
    · simp [hr] at h

structure De where
  s : Sto
  old : List Int
  n : Nd
  e : Int

def fewN (n : Nd) : Bool := decide (n.ks.length < if n.lf then 2 else 1)
theorem fewN_iff (n : Nd) : fewN n = false ↔ full n := by unfold fewN full; simp
/-- the neighbour's number -/
def nbI (c : Nat) : Nat := if c = 0 then 1 else c - 1
/-- the number of the key between -/
def nbK (c : Nat) : Nat := if c = 0 then 0 else c - 1
def abN (n : Nd) (k : Nat) (r : Sto × List Int × Key × Int) : Nd := if r.2.1.length = 2 then insL (remL n k) k r.2.2.1 r.2.1 else withL (remL n k) k (r.2.1.getD 0 0)
def mgN (st : Step) (u : De) (m : Nd) : Nd := if st.c = 0 then merL u.n (st.n.ks.getD (nbK st.c) []) m else merL m (st.n.ks.getD (nbK st.c) []) u.n
def joinF (st : Step) (u : De) : De :=
  if (tload u.s (st.n.vs.getD (nbI st.c) 0)).2 = 0 then
    if (tload u.s (st.n.vs.getD (nbI st.c) 0)).1.lf = u.n.lf then
      ⟨(putM u.s (mgN st u (tload u.s (st.n.vs.getD (nbI st.c) 0)).1)).1, u.old ++ [st.p] ++ [st.n.vs.getD (nbI st.c) 0],
        if (putM u.s (mgN st u (tload u.s (st.n.vs.getD (nbI st.c) 0)).1)).2.2.2 = 0 then abN st.n (nbK st.c) (putM u.s (mgN st u (tload u.s (st.n.vs.getD (nbI st.c) 0)).1)) else nd0,
        (putM u.s (mgN st u (tload u.s (st.n.vs.getD (nbI st.c) 0)).1)).2.2.2⟩
    else ⟨u.s, u.old ++ [st.p], nd0, 10⟩
  else ⟨u.s, u.old ++ [st.p], nd0, (tload u.s (st.n.vs.getD (nbI st.c) 0)).2⟩
def sameF (st : Step) (u : De) : De := ⟨(u.s.save u.n).1, u.old ++ [st.p], if (u.s.save u.n).2.2 = 0 then withL st.n st.c (u.s.save u.n).2.1 else nd0, (u.s.save u.n).2.2⟩
def deF (st : Step) (u : De) : De := if u.e = 0 then (if fewN u.n = true then joinF st u else sameF st u) else u
def deAll (s : Sto) (l : List Step) (x : Step) (key : Key) : De := l.foldr deF ⟨s, [x.p], remL x.n (findM x.n key), 0⟩

theorem ris_del {ks : List Key} (h : Ris ks) (i : Nat) : Ris (ks.take i ++ ks.drop (i + 1)) := by
  refine List.Pairwise.sublist ?_ h
  have : (ks.take i ++ ks.drop (i + 1)).Sublist (ks.take i ++ ks.drop i) := List.Sublist.append (List.Sublist.refl _) (List.drop_sublist_drop_left ks (by omega))
  rwa [List.take_append_drop] at this
theorem mem_del {α : Type} {l : List α} {i j : Nat} {x : α} (h : x ∈ l.take i ++ l.drop j) : x ∈ l := by
  rcases List.mem_append.1 h with h | h
  · exact List.mem_of_mem_take h
  · exact List.mem_of_mem_drop h

theorem leaf_del {s : Sto} {n : Nd} {lo : Key} {hi : Option Key} {its : Its} {pg : List Int} {key : Key} (hh : Has s 0 n lo hi its pg) (hd : hadM n key = true) :
    Has s 0 (remL n (findM n key)) lo hi (rdel its key) [] ∧ (remL n (findM n key)).ks.length + 1 = n.ks.length := by
  obtain ⟨h1, h2, h3, rfl, rfl⟩ := hh
  have hf : n.vs.length = n.ks.length := by have := h2.form; rw [h1] at this; simpa using this
  obtain ⟨hi, _⟩ := had_lt hd
  have e : remL n (findM n key) = ⟨true, n.ks.take (findM n key) ++ n.ks.drop (findM n key + 1), n.vs.take (findM n key) ++ n.vs.drop (findM n key + 1)⟩ := by simp [remL, bh, h1]
  have hl : (remL n (findM n key)).ks.length + 1 = n.ks.length := by rw [e]; simp; omega
  refine ⟨⟨by rw [e], ⟨by rw [e]; exact ris_del h2.ris _, fun k hk => h2.keys k (by rw [e] at hk; exact mem_del hk), fun v hv => h2.vals v (by rw [e] at hv; exact mem_del hv), ?_⟩, fun k hk => h3 k (by rw [e] at hk; exact mem_del hk), ?_, rfl⟩, hl⟩
  · rw [e]; simp; omega
  · unfold rdel
    rw [found_zip hf, hd, if_pos rfl, place_zip key hf]
    change List.take (findM n key) _ ++ List.drop (findM n key + 1) _ = _
    rw [e]
    simp only
    rw [List.zip_append (by simp; omega)]
    simp only [List.zip, ← List.take_zipWith, ← List.drop_zipWith]

theorem inner_lt {s : Sto} {h : Nat} {n : Nd} {lo : Key} {hi : Option Key} {its : Its} {pg : List Int} (hh : Has s (h + 1) n lo hi its pg) : ∀ k ∈ n.ks, lt lo k := by
  obtain ⟨h1, h2, h3, h4⟩ := hh
  intro k hk
  obtain ⟨i, hi, rfl⟩ := List.getElem_of_mem hk
  match hks : n.ks, hvs : n.vs, h4, h2.ris, hi with
  | [], _, _, _, hi => simp at hi
  | _ :: _, [], h4, _, _ => simp [Kids] at h4
  | a :: ks, v :: vs, h4, hr, hi =>
    obtain ⟨i1, p1, i2, p2, f1, _⟩ := h4
    have hc := (tr_count s h f1).1
    have hf := (tr_fine s h _ _ _ _ _ f1).2
    have h2' : 0 < 2 ^ (h + 1) := Nat.pow_pos (by omega)
    match i1, hc, hf with
    | [], hc, _ => simp at hc
    | x :: i1, _, hf =>
      have hx := hf x (by simp)
      have : lt lo a := le_lt hx.1 (hx.2 a rfl)
      cases i with
      | zero => exact this
      | succ i => exact lt_trans this (ris_get hr (show 0 < i + 1 by omega) hi)

/-- two nodes, one beside the other, and the key between -/
theorem merge_law {s : Sto} {h : Nat} {a b : Nd} {lo k : Key} {hi : Option Key} {i1 i2 : Its} {p1 p2 : List Int} (ha : Has s h a lo (some k) i1 p1) (hb : Has s h b k hi i2 p2) (hk : kOk k) (hw : Win lo hi k) :
    Has s h (merL a k b) lo hi (i1 ++ i2) (p1 ++ p2) := by
  have hbW : ∀ x ∈ b.ks, Win lo hi x := fun x hx => by
    have : Win k hi x := by cases h <;> exact hb.2.2.1 x hx
    exact ⟨le_trans hw.1 this.1, this.2⟩
  have haW : ∀ x ∈ a.ks, lt x k ∧ Win lo hi x := fun x hx => by
    have : Win lo (some k) x := by cases h <;> exact ha.2.2.1 x hx
    exact ⟨this.2 k rfl, this.1, fun y hy => lt_trans (this.2 k rfl) (hw.2 y hy)⟩
  cases h with
  | zero =>
    obtain ⟨a1, a2, a3, rfl, rfl⟩ := ha
    obtain ⟨b1, b2, b3, rfl, rfl⟩ := hb
    have fa := a2.form; have fb := b2.form
    rw [a1] at fa; rw [b1] at fb
    simp only [if_true, Nat.add_zero] at fa fb
    have e : merL a k b = ⟨true, a.ks ++ b.ks, a.vs ++ b.vs⟩ := by simp [merL, a1]
    rw [e]
    refine ⟨rfl, ⟨?_, fun x hx => ?_, fun x hx => ?_, ?_⟩, fun x hx => ?_, ?_, rfl⟩
    · exact List.pairwise_append.2 ⟨a2.ris, b2.ris, fun x hx y hy => lt_of_lt_le (haW x hx).1 (b3 y hy).1⟩
    · rcases List.mem_append.1 hx with h | h
      · exact a2.keys x h
      · exact b2.keys x h
    · rcases List.mem_append.1 hx with h | h
      · exact a2.vals x h
      · exact b2.vals x h
    · simp; omega
    · rcases List.mem_append.1 hx with h | h
      · exact (haW x h).2
      · exact hbW x h
    · simp only; rw [List.zip_append fa.symm]
  | succ h =>
    have hlt := inner_lt hb
    obtain ⟨a1, a2, a3, a4⟩ := ha
    obtain ⟨b1, b2, b3, b4⟩ := hb
    have fa := a2.form; have fb := b2.form
    rw [a1] at fa; rw [b1] at fb
    simp only [Bool.false_eq_true, if_false] at fa fb
    have e : merL a k b = ⟨false, a.ks ++ k :: b.ks, a.vs ++ b.vs⟩ := by simp [merL, a1]
    rw [e]
    refine ⟨rfl, ⟨?_, fun x hx => ?_, fun x hx => ?_, ?_⟩, fun x hx => ?_, ?_⟩
    · refine List.pairwise_append.2 ⟨a2.ris, List.pairwise_cons.2 ⟨hlt, b2.ris⟩, fun x hx y hy => ?_⟩
      rcases List.mem_cons.1 hy with rfl | hy
      · exact (haW x hx).1
      · exact lt_trans (haW x hx).1 (hlt y hy)
    · rcases List.mem_append.1 hx with h | h
      · exact a2.keys x h
      · rcases List.mem_cons.1 h with rfl | h
        · exact hk
        · exact b2.keys x h
    · rcases List.mem_append.1 hx with h | h
      · exact a2.vals x h
      · exact b2.vals x h
    · simp; omega
    · rcases List.mem_append.1 hx with h | h
      · exact (haW x h).2
      · rcases List.mem_cons.1 h with rfl | h
        · exact hw
        · exact hbW x h
    · exact kids_join b4 a4

theorem putM_ok (s : Sto) (n : Nd) (h : s.fl = 0) (h2 : 0 ≤ s.sv) (w : s.Wf) : (putM s n).2.2.2 = 0 := by
  unfold putM
  have e := (save_spec s (splA n) w).1
  split
  · exact save_ok s n h h2
  · rw [if_pos (save_ok s _ h h2)]
    exact save_ok _ _ (e.fl.trans h) (Int.le_trans h2 e.sv)
end Go.Tre

/-! part R08 -/
namespace Go.Tre

theorem has_loose {s : Sto} {h : Nat} {n : Nd} {lo : Key} {hi : Option Key} {its : Its} {pg : List Int} (hh : Has s h n lo hi its pg) : Loose n := by cases h <;> exact hh.2.1
theorem has_lf {s : Sto} {h : Nat} {n : Nd} {lo : Key} {hi : Option Key} {its : Its} {pg : List Int} (hh : Has s h n lo hi its pg) : n.lf = (h == 0) := by
  cases h with
  | zero => exact hh.1
  | succ h => rw [hh.1]; rfl
theorem has_right {s : Sto} {h : Nat} {n : Nd} {lo : Key} {hi : Option Key} {its : Its} {pg : List Int} (hh : Has s h n lo hi its pg) (h4 : n.ks.length ≤ 4) (hf : n.lf = false → 1 ≤ n.ks.length) : Right n := by
  have := has_loose hh
  exact ⟨this.ris, this.keys, this.vals, h4, this.form, hf⟩

theorem rem_loose {n : Nd} {k : Nat} (hn : Right n) (hl : n.lf = false) (hk : k < n.ks.length) : Loose (remL n k) ∧ (remL n k).lf = false ∧ (remL n k).ks = n.ks.take k ++ n.ks.drop (k + 1) ∧ (remL n k).vs = n.vs.take (k + 1) ++ n.vs.drop (k + 2) := by
  have e : remL n k = ⟨false, n.ks.take k ++ n.ks.drop (k + 1), n.vs.take (k + 1) ++ n.vs.drop (k + 1 + 1)⟩ := by simp [remL, bh, hl]
  have hf := hn.form
  rw [hl] at hf
  simp only [Bool.false_eq_true, if_false] at hf
  rw [e]
  refine ⟨⟨ris_del hn.ris _, fun k hk => hn.keys k (mem_del hk), fun v hv => hn.vals v (mem_del hv), ?_⟩, rfl, rfl, rfl⟩
  simp; omega

theorem loAt_del {lo : Key} {ks : List Key} {k : Nat} (hk : k < ks.length) : loAt lo (ks.take k ++ ks.drop (k + 1)) k = loAt lo ks k := by
  cases k with
  | zero => rfl
  | succ k =>
    simp only [loAt, List.getD_eq_getElem?_getD]
    rw [List.getElem?_append_left (by simp; omega), List.getElem?_take, if_pos (by omega)]
theorem hiAt_del {ks : List Key} {hi : Option Key} {k : Nat} (hk : k < ks.length) : hiAt (ks.take k ++ ks.drop (k + 1)) hi k = hiAt ks hi (k + 1) := by
  unfold hiAt
  have : (ks.take k ++ ks.drop (k + 1))[k]? = ks[k + 1]? := by
    rw [List.getElem?_append_right (by simp; omega)]
    simp only [List.length_take, Nat.min_eq_left (Nat.le_of_lt hk), Nat.sub_self, List.getElem?_drop, Nat.add_zero]
  rw [this]

theorem join_fin {s S : Sto} {h : Nat} {m mg : Nd} {lo : Key} {hi : Option Key} {k : Nat} {I A B : Its} {P PA PB : List Int} (w : S.Wf) (h0 : S.fl = 0) (hs : 0 ≤ S.sv) (hN : S.N + 2 < 1099511627776) (hm : Right m) (hl : m.lf = false) (hW : ∀ k ∈ m.ks, Win lo hi k) (hk : k < m.ks.length)
    (hh : Has S h mg (loAt lo m.ks k) (hiAt m.ks hi (k + 1)) I P) (h5 : mg.ks.length ≤ 5) (hf : full mg) (hR : ∀ v lo hi its pg, Tr s h v lo hi its pg → Tr S h v lo hi its pg)
    (one : ∀ R' : Rel, (∀ v lo hi its pg, Tr s h v lo hi its pg → R' v lo hi its pg) → ∀ v' M' P', R' v' (loAt lo m.ks k) (hiAt m.ks hi (k + 1)) M' P' → Kids R' lo (m.ks.take k ++ m.ks.drop (k + 1)) hi (m.vs.take k ++ v' :: m.vs.drop (k + 2)) (A ++ M' ++ B) (PA ++ P' ++ PB))
    (two : ∀ R' : Rel, (∀ v lo hi its pg, Tr s h v lo hi its pg → R' v lo hi its pg) → ∀ v1 v2 m' M1' M2' P1' P2', R' v1 (loAt lo m.ks k) (some m') M1' P1' → R' v2 m' (hiAt m.ks hi (k + 1)) M2' P2' → Kids R' lo (m.ks.take k ++ m' :: m.ks.drop (k + 1)) hi (m.vs.take k ++ v1 :: v2 :: m.vs.drop (k + 2)) (A ++ (M1' ++ M2') ++ B) (PA ++ (P1' ++ P2') ++ PB)) :
    (putM S mg).2.2.2 = 0 ∧ Ext S (putM S mg).1 ∧ (putM S mg).1.N ≤ S.N + 2 ∧ (abN m k (putM S mg)).ks.length ≤ 4 ∧ m.ks.length ≤ (abN m k (putM S mg)).ks.length + 1 ∧
      ∃ pgs, Has (putM S mg).1 (h + 1) (abN m k (putM S mg)) lo hi (A ++ I ++ B) (PA ++ pgs ++ PB) ∧ ∀ a, pgs.count a = P.count a + cr S.N (putM S mg).1.N a := by
  obtain ⟨p1, p2⟩ := put_law w hh h5 (fun e => by unfold full at hf; rw [e] at hf; exact hf)
  have p0 := putM_ok S mg h0 hs w
  have pN := putM_N S mg
  obtain ⟨L, Ll, Lk, Lv⟩ := rem_loose hm hl hk
  have hR' := fun v lo hi its pg ht => ext_tr p1 w (h := h) v lo hi its pg (hR v lo hi its pg ht)
  have hmf := hm.form
  rw [hl] at hmf
  simp only [Bool.false_eq_true, if_false] at hmf
  have h4 := hm.len
  have hW' : ∀ x ∈ (remL m k).ks, Win lo hi x := fun x hx => by rw [Lk] at hx; exact hW x (mem_del hx)
  refine ⟨p0, p1, pN, ?_⟩
  rcases p2 with p2 | ⟨_, pgs, p3, p4⟩
  · rw [p0] at p2; cases p2
  rcases p3 with ⟨q, qg, e1, e2, e3, e4, rfl⟩ | ⟨q, q', j1, j2, p1', p2', e1, e2, e3, e4, rfl, e6, e7, e8⟩
  · have hv' : vOk q := by have := get_bound e2; exact ⟨by omega, by omega⟩
    have ea : abN m k (putM S mg) = withL (remL m k) k q := by simp [abN, e1]
    have hlen : (withL (remL m k) k q).ks.length + 1 = m.ks.length := by simp only [withL]; rw [Lk]; simp; omega
    rw [ea]
    refine ⟨by omega, by omega, q :: qg, ?_, p4⟩
    refine up_one L Ll hW' hv' ?_
    have hkk := one _ hR' q _ _ ⟨mg, qg, e2, e3, hf, e4, rfl⟩
    rw [Lk, Lv]
    have : (m.vs.take (k + 1) ++ m.vs.drop (k + 2)).set k q = m.vs.take k ++ q :: m.vs.drop (k + 2) := by
      rw [List.take_succ_eq_append_getElem (show k < m.vs.length by omega), List.append_assoc, List.set_append_right _ _ (by simp; omega)]
      simp [Nat.min_eq_left (show k ≤ m.vs.length by omega)]
    rw [this]; exact hkk
  · obtain ⟨_, _, g2, _⟩ := id e2
    obtain ⟨_, _, g4, _⟩ := id e3
    have hv1 : vOk q := by have := get_bound g2; exact ⟨by omega, by omega⟩
    have hv2 : vOk q' := by have := get_bound g4; exact ⟨by omega, by omega⟩
    have ea : abN m k (putM S mg) = insL (remL m k) k (putM S mg).2.2.1 [q, q'] := by simp [abN, e1]
    have hlen : (insL (remL m k) k (putM S mg).2.2.1 [q, q']).ks.length = m.ks.length := by simp only [insL]; rw [Lk]; simp; omega
    rw [ea]
    refine ⟨by omega, by omega, p1' ++ p2', ?_, p4⟩
    rw [e4]
    have t1 : (m.ks.take k ++ m.ks.drop (k + 1)).take k = m.ks.take k := List.take_left' (by simp; omega)
    have t2 : (m.ks.take k ++ m.ks.drop (k + 1)).drop k = m.ks.drop (k + 1) := List.drop_left' (by simp; omega)
    have t3 : (m.vs.take (k + 1) ++ m.vs.drop (k + 2)).take k = m.vs.take k := by
      rw [List.take_append_of_le_length (by simp; omega), List.take_take]; congr 1; omega
    have t4 : (m.vs.take (k + 1) ++ m.vs.drop (k + 2)).drop (k + 1) = m.vs.drop (k + 2) := List.drop_left' (by simp; omega)
    refine up_two L Ll hW' hv1 hv2 e6 (by rw [Lk]; simp; omega) (by rw [Lk, loAt_del hk]; exact e7) (by rw [Lk, hiAt_del hk]; exact e8) ?_
    rw [Lk, Lv, t1, t2, t3, t4]
    have := two _ hR' q q' (putM S mg).2.2.1 _ _ _ _ e2 e3
    simpa using this

theorem path_del {s : Sto} {key : Key} (w : s.Wf) (h0 : s.fl = 0) (hs : 0 ≤ s.sv) : ∀ {h : Nat} {p : Int} {l : List Step} {x : Step}, Path s key h p l x → s.N + 2 * (h + 1) < 1099511627776 → hadM x.n key = true → ∀ {n : Nd} {lo : Key} {hi : Option Key} {its : Its} {pg : List Int}, s.get p = some n → Has s h n lo hi its pg → Win lo hi key →
    Ext s (deAll s l x key).s ∧ (deAll s l x key).s.N ≤ s.N + 2 * (h + 1) ∧ (deAll s l x key).e = 0 ∧ (deAll s l x key).n.ks.length ≤ 4 ∧ n.ks.length ≤ (deAll s l x key).n.ks.length + 1 ∧
      ∃ pg', Has (deAll s l x key).s h (deAll s l x key).n lo hi (rdel its key) pg' ∧ ∀ a, pg'.count a + (deAll s l x key).old.count a = (p :: pg).count a + cr s.N (deAll s l x key).s.N a := by
  intro h p l x hP
  induction hP with
  | @leaf p m hg hr hl =>
    intro hN hd n lo hi its pg hgn hh hw
    rw [hg] at hgn; injection hgn with hgn; subst hgn
    obtain ⟨l1, l2⟩ := leaf_del hh hd
    have hpg : pg = [] := hh.2.2.2.2
    have h4 := hr.len
    refine ⟨Ext.refl _, by simp only [deAll, List.foldr_nil]; omega, rfl, by simp only [deAll, List.foldr_nil]; omega, by simp only [deAll, List.foldr_nil]; omega, [], l1, fun a => ?_⟩
    simp only [deAll, List.foldr_nil, hpg, cr_self, List.count_nil]; omega
  | @inner h p m l x hg hr hl hP ih =>
    intro hN hd n lo hi its pg hgn hh hw
    rw [hg] at hgn; injection hgn with hgn; subst hgn
    obtain ⟨_, hL, hW, hK⟩ := hh
    have hcw := child_win (n := m) rfl hw
    have hcl := childM_le m key
    obtain ⟨A, M, B, PA, PM, PB, ⟨cn, cpg, c1, c2, c3, c4, rfl⟩, hits, hpgs, ap, k1, _⟩ := kids_at (tr_fine s h) (childM m key) hr.ris hW hcl hK
    have IH := fun {lo hi its pg} => ih (by omega) hd (lo := lo) (hi := hi) (its := its) (pg := pg) c1
    obtain ⟨i1, i2, i3, i4, i5, pg', i6, i7⟩ := IH c4 hcw
    have hu : deAll s (⟨m, p, childM m key⟩ :: l) x key = deF ⟨m, p, childM m key⟩ (deAll s l x key) := rfl
    rw [hu]
    generalize deAll s l x key = u at *
    have w' := i1.wf w
    have u0 := i1.fl.trans h0
    have us := Int.le_trans hs i1.sv
    have h4 := hr.len
    have h1 := hr.inner hl
    have hmf := hr.form
    rw [hl] at hmf
    simp only [Bool.false_eq_true, if_false] at hmf
    unfold deF
    rw [if_pos i3]
    by_cases hf : fewN u.n = true
    · rw [if_pos hf]
      obtain ⟨k, hkd⟩ : ∃ k, k = nbK (childM m key) := ⟨_, rfl⟩
      have hkl : k < m.ks.length := by rw [hkd]; unfold nbK; split <;> omega
      obtain ⟨A2, M1, M2, B2, PA2, P1, P2, PB2, r1, r2, e1, e2, ap2, one, two⟩ := kids_pair (tr_fine s h) k hr.ris hW hkl hK
      obtain ⟨n1, g1, q1, q2, q3, q4, rfl⟩ := r1
      obtain ⟨n2, g2, s1, s2, s3, s4, rfl⟩ := r2
      have hkk := hr.keys _ (List.getElem_mem hkl)
      have hkey : m.ks.getD k [] = m.ks[k] := by rw [List.getD_eq_getElem?_getD, List.getElem?_eq_getElem hkl]; rfl
      have few_len : u.n.ks.length < if (h == 0) then 2 else 1 := by
        have := has_lf i6
        unfold fewN at hf; rw [this] at hf; simpa using hf
      have hwk : Win (loAt lo m.ks k) (hiAt m.ks hi (k + 1)) m.ks[k] := by
        constructor
        · cases k with
          | zero => exact (hW _ (List.getElem_mem hkl)).1
          | succ k =>
            simp only [loAt, List.getD_eq_getElem?_getD]
            rw [List.getElem?_eq_getElem (by omega)]
            exact lt_le (ris_get hr.ris (Nat.lt_succ_self k) hkl)
        · intro y hy
          unfold hiAt at hy
          rcases Nat.lt_or_ge (k + 1) m.ks.length with h | h
          · rw [List.getElem?_eq_getElem h] at hy; injection hy with hy; subst hy
            exact ris_get hr.ris (Nat.lt_succ_self k) h
          · rw [List.getElem?_eq_none h] at hy
            exact (hW _ (List.getElem_mem hkl)).2 y hy
      -- what is put together
      have main : ∃ (mg sn : Nd) (I : Its) (P : List Int), tload u.s (m.vs.getD (nbI (childM m key)) 0) = (sn, 0) ∧ sn.lf = u.n.lf ∧ mgN ⟨m, p, childM m key⟩ u sn = mg ∧
          Has u.s h mg (loAt lo m.ks k) (hiAt m.ks hi (k + 1)) I P ∧ mg.ks.length ≤ 5 ∧ full mg ∧ rdel its key = A2 ++ I ++ B2 ∧
          ∀ a, P.count a + (u.old.count a + [m.vs.getD (nbI (childM m key)) 0].count a) = ((m.vs.getD k 0 :: g1) ++ (m.vs.getD (k + 1) 0 :: g2)).count a + cr s.N u.s.N a := by
        have h0c : childM m key = 0 ∨ childM m key = k + 1 := by rw [hkd]; unfold nbK; split <;> omega
        rcases h0c with hc0 | hc0
        · have hk0 : k = 0 := by rw [hkd]; unfold nbK; rw [if_pos hc0]
          subst hk0
          have hch : s.get (m.vs.getD 0 0) = some cn := by rw [hc0] at c1; exact c1
          rw [hch] at q1; injection q1 with q1; subst q1
          have hw1 : Win (loAt lo m.ks 0) (some m.ks[0]) key := by
            have := hcw; rw [hc0] at this
            simpa [hiAt, List.getElem?_eq_getElem hkl] using this
          obtain ⟨_, _, _, j4, j5, pg1, j6, j7⟩ := IH q4 hw1
          have hgs : u.s.get (m.vs.getD 1 0) = some n2 := i1.get w s1
          have hnb : nbI (childM m key) = 1 := by unfold nbI; rw [if_pos hc0]
          have lf2 : n2.lf = u.n.lf := by rw [has_lf s4, has_lf j6]
          have mgl := merge_law j6 (ext_has i1 w s4) hkk hwk
          have l2 := s2.len
          have f2 := s3
          unfold full at f2
          rw [has_lf s4] at f2
          have f1 := q3
          unfold full at f1
          rw [has_lf q4] at f1
          have lmg : (merL u.n m.ks[0] n2).ks.length = u.n.ks.length + (if (h == 0) then 0 else 1) + n2.ks.length := by
            simp only [merL, List.length_append, has_lf j6]; split <;> simp <;> omega
          have b5 : (merL u.n m.ks[0] n2).ks.length ≤ 5 ∧ (if (h == 0) = true then 2 else 1) ≤ (merL u.n m.ks[0] n2).ks.length := by
            clear j7 i7 j6 i6 mgl ap ap2 one two k1 IH ih hcw hits hpgs e1 e2
            generalize (merL u.n m.ks[0] n2).ks.length = L at lmg ⊢
            generalize (h == 0) = z at few_len f1 f2 lmg ⊢
            cases z <;> simp only [if_true, if_false, Bool.false_eq_true] at few_len f1 f2 lmg ⊢ <;> omega
          refine ⟨merL u.n m.ks[0] n2, n2, _, _, by rw [hnb]; exact tload_ok hgs s2, lf2, by simp only [mgN, hc0, if_true, nbK, hkey], mgl, ?_, ?_, ?_, fun a => ?_⟩
          · exact b5.1
          · unfold full; rw [has_lf mgl]; exact b5.2
          · rw [e1]
            have hA : ∀ y ∈ A2, lt y.1 key := fun y hy => lt_of_lt_le (ap2.A y hy) hw1.1
            have hB : ∀ y ∈ M2 ++ B2, lt key y.1 := fun y hy => by
              rcases List.mem_append.1 hy with hy | hy
              · exact lt_of_lt_le (hw1.2 _ rfl) ((has_fine s h s4).2 y hy).1
              · obtain ⟨z, z1, z2⟩ := ap2.B y hy
                exact lt_of_lt_le (lt_trans (hw1.2 _ rfl) (hwk.2 z z1)) z2
            have := rdel_mid (M := M1) hA hB
            rw [show A2 ++ (M1 ++ M2) ++ B2 = A2 ++ M1 ++ (M2 ++ B2) by simp, this]; simp
          · have j := j7 a
            rw [hnb]
            rw [hc0] at j
            simp only [List.count_append, List.count_cons, List.count_nil, Nat.zero_add] at j ⊢
            omega
        · have hk1 : ¬ childM m key = 0 := by omega
          have hch : s.get (m.vs.getD (k + 1) 0) = some cn := by rw [hc0] at c1; exact c1
          rw [hch] at s1; injection s1 with s1; subst s1
          have hw1 : Win m.ks[k] (hiAt m.ks hi (k + 1)) key := by
            have := hcw; rw [hc0] at this
            simpa [loAt, List.getElem?_eq_getElem hkl] using this
          obtain ⟨_, _, _, j4, j5, pg1, j6, j7⟩ := IH s4 hw1
          have hgs : u.s.get (m.vs.getD k 0) = some n1 := i1.get w q1
          have hnb : nbI (childM m key) = k := by unfold nbI; rw [if_neg hk1]; omega
          have hnk : nbK (childM m key) = k := hkd.symm
          have lf2 : n1.lf = u.n.lf := by rw [has_lf q4, has_lf j6]
          have mgl := merge_law (ext_has i1 w q4) j6 hkk hwk
          have l2 := q2.len
          have f2 := s3
          unfold full at f2
          rw [has_lf s4] at f2
          have f1 := q3
          unfold full at f1
          rw [has_lf q4] at f1
          have lmg : (merL n1 m.ks[k] u.n).ks.length = n1.ks.length + (if (h == 0) then 0 else 1) + u.n.ks.length := by
            simp only [merL, List.length_append, has_lf q4]; split <;> simp <;> omega
          have b5 : (merL n1 m.ks[k] u.n).ks.length ≤ 5 ∧ (if (h == 0) = true then 2 else 1) ≤ (merL n1 m.ks[k] u.n).ks.length := by
            clear j7 i7 j6 i6 mgl ap ap2 one two k1 IH ih hcw hits hpgs e1 e2
            generalize (merL n1 m.ks[k] u.n).ks.length = L at lmg ⊢
            generalize (h == 0) = z at few_len f1 f2 lmg ⊢
            cases z <;> simp only [if_true, if_false, Bool.false_eq_true] at few_len f1 f2 lmg ⊢ <;> omega
          refine ⟨merL n1 m.ks[k] u.n, n1, _, _, by rw [hnb]; exact tload_ok hgs q2, lf2, by simp only [mgN, hk1, if_false, hnk, hkey], mgl, ?_, ?_, ?_, fun a => ?_⟩
          · exact b5.1
          · unfold full; rw [has_lf mgl]; exact b5.2
          · rw [e1]
            have hA : ∀ y ∈ A2 ++ M1, lt y.1 key := fun y hy => by
              rcases List.mem_append.1 hy with hy | hy
              · exact lt_of_lt_le (ap2.A y hy) (le_trans hwk.1 hw1.1)
              · exact lt_of_lt_le (((has_fine s h q4).2 y hy).2 _ rfl) hw1.1
            have hB : ∀ y ∈ B2, lt key y.1 := fun y hy => by
              obtain ⟨z, z1, z2⟩ := ap2.B y hy
              exact lt_of_lt_le (hw1.2 z z1) z2
            have := rdel_mid (M := M2) hA hB
            rw [show A2 ++ (M1 ++ M2) ++ B2 = A2 ++ M1 ++ M2 ++ B2 by simp, this]; simp
          · have j := j7 a
            rw [hnb]
            rw [hc0] at j
            simp only [List.count_append, List.count_cons, List.count_nil, Nat.zero_add] at j ⊢
            omega
      obtain ⟨mg, sn, I, P, z1, z2, z3, z4, z5, z6, z7, z8⟩ := main
      obtain ⟨f0, f1, f2, f3, f4, pgs, f5, f6⟩ := join_fin w' u0 us (by omega) hr hl hW hkl z4 z5 z6 (ext_tr i1 w (h := h)) one two
      unfold joinF
      simp only [z1, z2, if_true, z3, f0, ← hkd]
      refine ⟨i1.trans f1, by omega, trivial, f3, f4, _, by rw [z7]; exact f5, fun a => ?_⟩
      have a1 := z8 a
      have a2 := f6 a
      have a3 := cr_add i1.N_le f1.N_le a
      rw [e2]
      simp only [List.count_append, List.count_cons, List.count_nil] at a1 a2 a3 ⊢
      omega
    · rw [if_neg hf]
      have hf' : full u.n := (fewN_iff _).1 (by simpa using hf)
      have hR : Right u.n := has_right i6 i4 (fun e => by unfold full at hf'; rw [e] at hf'; exact hf')
      obtain ⟨e1, e2⟩ := save_spec u.s u.n w'
      have e0 := save_ok u.s u.n u0 us
      have eN := save_N u.s u.n
      rcases e2 with ⟨e2, _⟩ | ⟨_, e3, e4, e5⟩
      · rw [e0] at e2; cases e2
      unfold sameF
      simp only [e0, if_true]
      rw [← e3] at e4
      have hb := get_bound e4
      have hv : vOk (u.s.save u.n).2.1 := ⟨by omega, by omega⟩
      have hkk := k1 _ (ext_tr (i1.trans e1) w (h := h)) (u.s.save u.n).2.1 _ _ ⟨u.n, pg', e4, hR, hf', ext_has e1 w' i6, rfl⟩
      refine ⟨i1.trans e1, by omega, trivial, by simp only [withL]; omega, by simp only [withL]; omega, PA ++ (u.s.save u.n).2.1 :: pg' ++ PB, ?_, fun a => ?_⟩
      · rw [hits]
        have hA : ∀ y ∈ A, lt y.1 key := fun y hy => lt_of_lt_le (ap.A y hy) hcw.1
        have hB : ∀ y ∈ B, lt key y.1 := fun y hy => by
          obtain ⟨z, z1, z2⟩ := ap.B y hy
          exact lt_of_lt_le (hcw.2 z z1) z2
        rw [rdel_mid hA hB]
        exact up_one hr.loose hl hW hv hkk
      · have a1 := i7 a
        have a3 := cr_add i1.N_le e1.N_le a
        rw [e5, cr_one, ← e3] at a3
        rw [e5, hpgs]
        simp only [List.count_append, List.count_cons, List.count_nil] at a1 a3 ⊢
        omega
end Go.Tre

/-! part R09 -/
namespace Go.Tre

/-- one after the other, until one fails -/
def foldE {α : Type} (g : Int → α → α × Int) (bad : α) : List Int → α → α × Int
  | [], a => (a, 0)
  | p :: l, a => if (g p a).2 = 0 then foldE g bad l (g p a).1 else (bad, (g p a).2)

/-- the way to where a key belongs -/
def wayM (s : Sto) (key : Key) : Nat → Int → List Step → List Step × Int
  | 0, page, out => if page = 0 then (out, 0) else ([], 10)
  | f + 1, page, out => if page = 0 then (out, 0) else
    if (tload s page).2 = 0 then
      if (tload s page).1.lf = true then (out ++ [⟨(tload s page).1, page, childM (tload s page).1 key⟩], 0)
      else wayM s key f ((tload s page).1.vs.getD (childM (tload s page).1 key) 0) (out ++ [⟨(tload s page).1, page, childM (tload s page).1 key⟩])
    else ([], (tload s page).2)

def getX (x : Step) (key : Key) : Int × Bool := if hadM x.n key then (x.n.vs.getD (findM x.n key) 0, true) else (0, false)
def getM (s : Sto) (root : Int) (key : Key) : Int × Bool × Int :=
  if (wayM s key 40 root []).2 = 0 then
    match (wayM s key 40 root []).1.getLast? with
    | none => (0, false, 0)
    | some x => ((getX x key).1, (getX x key).2, 0)
  else (0, false, (wayM s key 40 root []).2)

def pagesM (s : Sto) : Nat → Int → List Int → List Int × Int
  | 0, _, _ => ([], 10)
  | f + 1, page, out => if (tload s page).2 = 0 then
      if (tload s page).1.lf = true then (out ++ [page], 0) else foldE (pagesM s f) [] (tload s page).1.vs (out ++ [page])
    else ([], (tload s page).2)

/-- a leaf's items, from a key on, so many at most -/
def leafM (frm : Key) (most : Int) : Its → Its → Its
  | [], out => out
  | (k, v) :: l, out => leafM frm most l (if !Op.bytesLess k frm && decide ((out.length : Int) < most) then out ++ [(k, v)] else out)
/-- .. of children, until there are enough -/
def foldM (g : Int → Its → Its × Int) (most : Int) : List Int → Its → Its × Int
  | [], a => (a, 0)
  | p :: l, a => if (a.length : Int) < most then (if (g p a).2 = 0 then foldM g most l (g p a).1 else ([], (g p a).2)) else (a, 0)
def itemsM (s : Sto) (frm : Key) (most : Int) : Nat → Int → Its → Its × Int
  | 0, _, _ => ([], 10)
  | f + 1, page, out => if (tload s page).2 = 0 then
      if (tload s page).1.lf = true then (leafM frm most ((tload s page).1.ks.zip (tload s page).1.vs) out, 0)
      else foldM (itemsM s frm most f) most ((tload s page).1.vs.drop (childM (tload s page).1 frm)) out
    else ([], (tload s page).2)
def scanM (s : Sto) (root : Int) (frm : Key) (most : Int) : Its × Int := if root = 0 ∨ most < 1 then ([], 0) else itemsM s frm most 40 root []

/-! ### the way -/
theorem way_law {s : Sto} {key : Key} : ∀ {h : Nat} {f : Nat} {p : Int} {n : Nd} {lo : Key} {hi : Option Key} {its : Its} {pg : List Int} (out : List Step), s.get p = some n → Right n → Has s h n lo hi its pg → h + 1 ≤ f → Win lo hi key →
    ∃ l x, Path s key h p l x ∧ wayM s key f p out = (out ++ l ++ [x], 0) ∧ getX x key = rget its key
  | h, 0, _, _, _, _, _, _, _, _, _, _, hf, _ => by omega
  | 0, f + 1, p, n, lo, hi, its, pg, out, hg, hr, hh, hf, hw => by
    obtain ⟨h1, h2, h3, rfl, rfl⟩ := hh
    have hl := tload_ok hg hr
    have hb := get_bound hg
    refine ⟨[], _, .leaf hg hr h1, ?_, ?_⟩
    · unfold wayM
      rw [if_neg (by omega), hl]
      simp [h1]
    · have hfm : n.vs.length = n.ks.length := by have := h2.form; rw [h1] at this; simpa using this
      unfold getX rget
      rw [found_zip hfm]
      split
      · rename_i hd; rw [val_zip hfm key hd]
      · rfl
  | h + 1, f + 1, p, n, lo, hi, its, pg, out, hg, hr, hh, hf, hw => by
    obtain ⟨h1, h2, h3, h4⟩ := hh
    have hl := tload_ok hg hr
    have hb := get_bound hg
    have hcw := child_win (n := n) rfl hw
    obtain ⟨A, M, B, PA, PM, PB, ⟨cn, cpg, c1, c2, c3, c4, rfl⟩, rfl, rfl, ap, _, _⟩ := kids_at (tr_fine s h) (childM n key) hr.ris h3 (childM_le n key) h4
    obtain ⟨l, x, e1, e2, e3⟩ := way_law (f := f) (out ++ [⟨n, p, childM n key⟩]) c1 c2 c4 (by omega) hcw
    refine ⟨⟨n, p, childM n key⟩ :: l, x, .inner hg hr h1 e1, ?_, ?_⟩
    · unfold wayM
      rw [if_neg (by omega), hl]
      simp only [if_true, h1, Bool.false_eq_true, if_false]
      rw [e2]; simp
    · rw [e3, rget_mid (fun y hy => lt_of_lt_le (ap.A y hy) hcw.1) (fun y hy => by
        obtain ⟨z, z1, z2⟩ := ap.B y hy
        exact lt_of_lt_le (hcw.2 z z1) z2)]

/-! ### pages -/
theorem foldE_kids {R : Rel} {α : Type} {g : Int → α → α × Int} {bad : α} {add : α → Its → List Int → α} (hadd : ∀ a i p j q, add (add a i p) j q = add a (i ++ j) (p ++ q)) (hR : ∀ v lo hi its pg a, R v lo hi its pg → g v a = (add a its pg, 0)) :
    ∀ {lo : Key} {ks : List Key} {hi : Option Key} {vs : List Int} {its : Its} {pg : List Int} (a : α), Kids R lo ks hi vs its pg → foldE g bad vs a = (add a its pg, 0)
  | _, [], _, [], _, _, _, h => by simp [Kids] at h
  | _, [], _, [v], _, _, a, h => by simp [foldE, hR _ _ _ _ _ a h]
  | _, [], _, v :: w :: vs, _, _, _, h => by simp [Kids] at h
  | _, k :: ks, _, [], _, _, _, h => by simp [Kids] at h
  | _, k :: ks, _, v :: vs, _, _, a, h => by
    obtain ⟨i1, p1, i2, p2, h1, h2, rfl, rfl⟩ := h
    simp only [foldE, hR _ _ _ _ _ a h1, if_true]
    rw [foldE_kids hadd hR _ h2, hadd]

theorem pages_law {s : Sto} : ∀ {h f : Nat} {p : Int} {n : Nd} {lo : Key} {hi : Option Key} {its : Its} {pg : List Int} (out : List Int), s.get p = some n → Right n → Has s h n lo hi its pg → h + 1 ≤ f → pagesM s f p out = (out ++ p :: pg, 0)
  | h, 0, _, _, _, _, _, _, _, _, _, _, hf => by omega
  | 0, f + 1, p, n, lo, hi, its, pg, out, hg, hr, hh, hf => by
    obtain ⟨h1, h2, h3, rfl, rfl⟩ := hh
    unfold pagesM
    rw [tload_ok hg hr]; simp [h1]
  | h + 1, f + 1, p, n, lo, hi, its, pg, out, hg, hr, hh, hf => by
    obtain ⟨h1, h2, h3, h4⟩ := hh
    unfold pagesM
    rw [tload_ok hg hr]
    simp only [if_true, h1, Bool.false_eq_true, if_false]
    rw [foldE_kids (add := fun a _ p => a ++ p) (by intros; simp) (fun v lo hi its pg a hr => by
      obtain ⟨m, pg', e1, e2, e3, e4, rfl⟩ := hr
      exact pages_law a e1 e2 e4 (by omega)) _ h4]
    simp

/-! ### items -/
/-- from a key on -/
def frmF (frm : Key) (its : Its) : Its := its.filter fun x => !Op.bytesLess x.1 frm
/-- what is added to 'out', so that there are so many at most -/
def addI (frm : Key) (most : Int) (out its : Its) : Its := out ++ (frmF frm its).take (most.toNat - out.length)
theorem addI_app (frm : Key) (most : Int) (out i j : Its) : addI frm most (addI frm most out i) j = addI frm most out (i ++ j) := by
  unfold addI frmF
  rw [List.filter_append, List.take_append, List.append_assoc]
  congr 2
  simp only [List.length_append, List.length_take]
  rcases Nat.le_total (most.toNat - out.length) (i.filter fun x => !Op.bytesLess x.1 frm).length with h | h
  · rw [Nat.min_eq_left h, show most.toNat - (out.length + (most.toNat - out.length)) = 0 by omega, show most.toNat - out.length - (i.filter fun x => !Op.bytesLess x.1 frm).length = 0 by omega]
  · rw [Nat.min_eq_right h, show most.toNat - (out.length + (i.filter fun x => !Op.bytesLess x.1 frm).length) = most.toNat - out.length - (i.filter fun x => !Op.bytesLess x.1 frm).length by omega]
theorem addI_nil (frm : Key) (most : Int) (out : Its) : addI frm most out [] = out := by simp [addI, frmF]
theorem addI_full {frm : Key} {most : Int} {out : Its} (h : ¬ (out.length : Int) < most) (its : Its) : addI frm most out its = out := by
  unfold addI; rw [show most.toNat - out.length = 0 by omega]; simp
theorem addI_none {frm : Key} {most : Int} {out its : Its} (h : ∀ x ∈ its, lt x.1 frm) : addI frm most out its = out := by
  have : frmF frm its = [] := by
    unfold frmF; rw [List.filter_eq_nil_iff]
    intro x hx; have := h x hx; simp only [lt] at this; simp [this]
  simp [addI, this]
theorem leafM_law (frm : Key) (most : Int) : ∀ (its out : Its), leafM frm most its out = addI frm most out its
  | [], out => (addI_nil frm most out).symm
  | (k, v) :: l, out => by
    unfold leafM
    rw [leafM_law frm most l, show (k, v) :: l = [(k, v)] ++ l from rfl, ← addI_app]
    congr 1
    unfold addI frmF
    by_cases h1 : Op.bytesLess k frm = true
    · simp [h1]
    · have h1 : Op.bytesLess k frm = false := by simpa using h1
      by_cases h2 : (out.length : Int) < most
      · obtain ⟨j, hj⟩ : ∃ j, most.toNat - out.length = j + 1 := ⟨most.toNat - out.length - 1, by omega⟩
        simp [h1, h2, hj]
      · rw [show most.toNat - out.length = 0 by omega]; simp [h1, h2]

theorem foldM_kids {R : Rel} {g : Int → Its → Its × Int} {frm : Key} {most : Int} (hR : ∀ v lo hi its pg a, R v lo hi its pg → g v a = (addI frm most a its, 0)) :
    ∀ {lo : Key} {ks : List Key} {hi : Option Key} {vs : List Int} {its : Its} {pg : List Int} (a : Its), Kids R lo ks hi vs its pg → foldM g most vs a = (addI frm most a its, 0)
  | _, [], _, [], _, _, _, h => by simp [Kids] at h
  | _, [], _, [v], _, _, a, h => by
    unfold foldM
    split
    · simp [hR _ _ _ _ _ a h, foldM]
    · rename_i h1; rw [addI_full h1]
  | _, [], _, v :: w :: vs, _, _, _, h => by simp [Kids] at h
  | _, k :: ks, _, [], _, _, _, h => by simp [Kids] at h
  | _, k :: ks, _, v :: vs, _, _, a, h => by
    obtain ⟨i1, p1, i2, p2, h1, h2, rfl, rfl⟩ := h
    unfold foldM
    split
    · simp only [hR _ _ _ _ _ a h1, if_true]
      rw [foldM_kids hR _ h2, addI_app]
    · rename_i h3; rw [addI_full h3]

theorem items_law {s : Sto} {frm : Key} {most : Int} : ∀ {h f : Nat} {p : Int} {n : Nd} {lo : Key} {hi : Option Key} {its : Its} {pg : List Int} (out : Its), s.get p = some n → Right n → Has s h n lo hi its pg → h + 1 ≤ f → itemsM s frm most f p out = (addI frm most out its, 0)
  | h, 0, _, _, _, _, _, _, _, _, _, _, hf => by omega
  | 0, f + 1, p, n, lo, hi, its, pg, out, hg, hr, hh, hf => by
    obtain ⟨h1, h2, h3, rfl, rfl⟩ := hh
    unfold itemsM
    rw [tload_ok hg hr]; simp [h1, leafM_law]
  | h + 1, f + 1, p, n, lo, hi, its, pg, out, hg, hr, hh, hf => by
    obtain ⟨h1, h2, h3, h4⟩ := hh
    unfold itemsM
    rw [tload_ok hg hr]
    simp only [if_true, h1, Bool.false_eq_true, if_false]
    have hR : ∀ v lo hi its pg a, At (Has s h) s v lo hi its pg → itemsM s frm most f v a = (addI frm most a its, 0) := fun v lo hi its pg a hr => by
      obtain ⟨m, pg', e1, e2, e3, e4, rfl⟩ := hr
      exact items_law a e1 e2 e4 (by omega)
    rcases Nat.eq_zero_or_pos (childM n frm) with h0 | h0
    · rw [h0, List.drop_zero]
      exact foldM_kids hR _ h4
    · have hc := childM_le n frm
      obtain ⟨i1, i2, p1, p2, f1, f2, rfl, rfl⟩ := kids_split (childM n frm - 1) (by omega) h4
      rw [show childM n frm - 1 + 1 = childM n frm by omega] at f1 f2
      rw [foldM_kids hR _ f2, ← addI_app, addI_none (its := i1)]
      intro x hx
      have hk : le n.ks[childM n frm - 1] frm := by
        have := (tw_spec (fun k => !Op.bytesLess frm k) n.ks).1 _ (take_get (show childM n frm - 1 < _ from by unfold childM at h0 ⊢; omega) (by omega))
        simpa [lt] using this
      have := kids_fine (tr_fine s h) (ris_take hr.ris _) (fun k hk => by
        refine ⟨(h3 k (List.mem_of_mem_take hk)).1, fun y hy => ?_⟩
        injection hy with hy; subst hy
        obtain ⟨j, hj, rfl⟩ := List.getElem_of_mem hk
        simp only [List.length_take] at hj
        rw [List.getElem_take]
        exact ris_get hr.ris (by omega) (by omega)) f1
      exact lt_of_lt_le ((this.2 x hx).2 _ rfl) hk

theorem frm_drop {its : Its} (h : Asc its) (frm : Key) : frmF frm its = its.drop (place its frm) := by
  unfold frmF place
  induction its with
  | nil => rfl
  | cons x l ih =>
    have h' := List.pairwise_cons.1 h
    by_cases c : Op.bytesLess x.1 frm = true
    · simp [c, ih h'.2]
    · have c' : Op.bytesLess x.1 frm = false := by simpa using c
      simp only [List.takeWhile_cons, c', Bool.false_eq_true, if_false, List.length_nil, List.drop_zero]
      rw [List.filter_eq_self]
      intro y hy
      rcases List.mem_cons.1 hy with rfl | hy
      · simp [c']
      · have := h'.1 y hy
        have : ¬ lt y.1 frm := fun e => c (lt_trans this e)
        simpa [lt] using this
theorem scan_law {its : Its} (h : Asc its) (frm : Key) (most : Int) : addI frm most [] its = rscan its frm most := by
  simp [addI, rscan, frm_drop h]
end Go.Tre

/-! part R10 -/
namespace Go.Tre

def Sto.drop (s : Sto) (p : Int) : Sto := if 1 ≤ p ∧ p ≤ s.th.length then ⟨s.nd, s.th.set (p.toNat - 1) false, s.sv, s.fl⟩ else s
def dropAll (s : Sto) (l : List Int) : Sto := l.foldl Sto.drop s

theorem drop_get {s : Sto} (w : s.Wf) (q p : Int) : (s.drop q).Wf ∧ (s.drop q).get p = if p = q then none else s.get p := by
  unfold Sto.drop
  split
  · rename_i hq
    refine ⟨by unfold Sto.Wf at *; simpa using w, ?_⟩
    unfold Sto.Wf at w
    unfold Sto.get
    simp only [List.getD_eq_getElem?_getD, List.getElem?_set]
    by_cases e : p = q
    · subst e
      rw [if_pos (rfl : p = p), if_neg]
      rintro ⟨h1, h2, h3⟩
      simp [show p.toNat - 1 < s.th.length by omega] at h3
    · rw [if_neg e]
      by_cases h1 : 1 ≤ p ∧ p ≤ s.nd.length
      · have : ¬ q.toNat - 1 = p.toNat - 1 := by omega
        simp [this]
      · rw [if_neg (by omega), if_neg (by omega)]
  · rename_i hq
    refine ⟨w, ?_⟩
    split
    · rename_i e; subst e
      unfold Sto.Wf at w
      unfold Sto.get; rw [if_neg (by omega)]
    · rfl
theorem drop_frame (s : Sto) (q : Int) : (s.drop q).nd = s.nd ∧ (s.drop q).sv = s.sv ∧ (s.drop q).fl = s.fl := by unfold Sto.drop; split <;> exact ⟨rfl, rfl, rfl⟩
theorem dropAll_get : ∀ (l : List Int) {s : Sto} (w : s.Wf) (p : Int), (dropAll s l).Wf ∧ ((dropAll s l).get p = if p ∈ l then none else s.get p)
  | [], s, w, p => ⟨w, by simp [dropAll]⟩
  | q :: l, s, w, p => by
    have h1 := fun p => drop_get w q p
    have h2 := dropAll_get l (h1 p).1 p
    refine ⟨h2.1, ?_⟩
    show (dropAll (s.drop q) l).get p = _
    rw [h2.2, (h1 p).2]
    by_cases e : p = q <;> by_cases e2 : p ∈ l <;> simp [e, e2]
theorem dropAll_frame : ∀ (l : List Int) (s : Sto), (dropAll s l).nd = s.nd ∧ (dropAll s l).sv = s.sv ∧ (dropAll s l).fl = s.fl
  | [], s => ⟨rfl, rfl, rfl⟩
  | q :: l, s => by
    have h1 := drop_frame s q
    have h2 := dropAll_frame l (s.drop q)
    exact ⟨h2.1.trans h1.1, h2.2.1.trans h1.2.1, h2.2.2.trans h1.2.2⟩

/-- nodes are only added -/
structure Grow (s s' : Sto) : Prop where
  nd : ∃ X, s'.nd = s.nd ++ X
  fl : s'.fl = s.fl
  sv : s.sv ≤ s'.sv
theorem Grow.refl (s : Sto) : Grow s s := ⟨⟨[], by simp⟩, rfl, Int.le_refl _⟩
theorem Grow.trans {a b c : Sto} (h : Grow a b) (k : Grow b c) : Grow a c := by
  obtain ⟨⟨X, h1⟩, h2, h3⟩ := h
  obtain ⟨⟨Y, k1⟩, k2, k3⟩ := k
  exact ⟨⟨X ++ Y, by rw [k1, h1, List.append_assoc]⟩, k2.trans h2, Int.le_trans h3 k3⟩
theorem Ext.grow {s s' : Sto} (h : Ext s s') : Grow s s' := by
  obtain ⟨⟨X, h1, _⟩, h2, h3⟩ := h
  exact ⟨⟨X, h1⟩, h2, h3⟩
theorem drop_grow (s : Sto) (l : List Int) : Grow s (dropAll s l) := by
  obtain ⟨h1, h2, h3⟩ := dropAll_frame l s
  exact ⟨⟨[], by rw [h1]; simp⟩, h3, by rw [h2]; exact Int.le_refl _⟩

/-- there is a tree, of just those items, and just the pages that are there -/
structure Inv (s : Sto) (root : Int) (its : Its) : Prop where
  wf : s.Wf
  tree : (root = 0 ∧ its = [] ∧ ∀ p, s.get p = none) ∨ ∃ h n pg, s.get root = some n ∧ Right n ∧ 1 ≤ n.ks.length ∧ Has s h n [] none its pg ∧ (root :: pg).Nodup ∧ ∀ p, (s.get p).isSome = true ↔ p ∈ root :: pg

theorem inv_asc {s : Sto} {root : Int} {its : Its} (h : Inv s root its) : Asc its := by
  rcases h.tree with ⟨_, rfl, _⟩ | ⟨h, n, pg, _, _, _, e, _⟩
  · exact List.Pairwise.nil
  · exact (has_fine s h e).1
theorem win_all (key : Key) : Win [] none key := ⟨le_nil key, fun _ h => by cases h⟩
theorem h_bound {h n : Nat} (h1 : 2 ^ h ≤ n) (h2 : n ≤ 100000000000) : h ≤ 36 := by
  rcases Nat.lt_or_ge 36 h with h3 | h3
  · have : 2 ^ 37 ≤ 2 ^ h := Nat.pow_le_pow_right (by omega) h3
    omega
  · exact h3

/-- the pages that are there, of the counts -/
theorem nodup_count {L : List Int} (h : L.Nodup) (a : Int) : L.count a = if a ∈ L then 1 else 0 := by
  split
  · rename_i h1; have := List.nodup_iff_count.1 h a; have := List.count_pos_iff.2 h1; omega
  · rename_i h1; exact List.count_eq_zero_of_not_mem h1
theorem nodup_of_count {L : List Int} (h : ∀ a, L.count a ≤ 1) : L.Nodup := List.nodup_iff_count.2 h

theorem get_ext {s s' : Sto} (e : Ext s s') (w : s.Wf) (p : Int) : (s'.get p).isSome = true ↔ (s.get p).isSome = true ∨ ((s.N : Int) < p ∧ p ≤ s'.N) := by
  have w' := e.wf w
  obtain ⟨⟨X, h1, h2⟩, _⟩ := e
  unfold Sto.Wf at w w'
  unfold Sto.get Sto.N
  have hl : s'.nd.length = s.nd.length + X.length := by rw [h1]; simp
  by_cases c : p ≤ s.nd.length
  · by_cases c0 : 1 ≤ p
    · have e1 : s'.th.getD (p.toNat - 1) false = s.th.getD (p.toNat - 1) false := by
        rw [h2]; simp only [List.getD_eq_getElem?_getD]; rw [List.getElem?_append_left (by omega)]
      have e2 : s'.nd[p.toNat - 1]? = s.nd[p.toNat - 1]? := by rw [h1, List.getElem?_append_left (by omega)]
      rw [e1, e2]
      constructor
      · intro h; left
        split at h
        · rename_i hc; rw [if_pos ⟨hc.1, by omega, hc.2.2⟩]; exact h
        · simp at h
      · rintro (h | h)
        · split at h
          · rename_i hc; rw [if_pos ⟨hc.1, by omega, hc.2.2⟩]; exact h
          · simp at h
        · omega
    · rw [if_neg (by omega), if_neg (by omega)]; simp; omega
  · rw [if_neg (c := 1 ≤ p ∧ p ≤ (s.nd.length : Int) ∧ _) (by omega)]
    simp only [Option.isSome_none, Bool.false_eq_true, false_or]
    constructor
    · intro h
      split at h
      · rename_i hc; omega
      · simp at h
    · rintro ⟨h3, h4⟩
      have e1 : s'.th.getD (p.toNat - 1) false = true := by
        rw [h2]; simp only [List.getD_eq_getElem?_getD]
        rw [List.getElem?_append_right (by omega), List.getElem?_replicate, if_pos (by omega)]; rfl
      rw [if_pos ⟨by omega, h4, e1⟩]
      rw [List.getElem?_eq_getElem (by omega)]; rfl

/-- a new tree, and what is dropped -/
theorem inv_of {s s' : Sto} {r : Int} {h : Nat} {n : Nd} {its' : Its} {pg pg' old : List Int} (w : s.Wf) (e : Ext s s') (hnd : pg.Nodup) (hall : ∀ p, (s.get p).isSome = true ↔ p ∈ pg) (hg : s'.get r = some n) (hr : Right n) (h1 : 1 ≤ n.ks.length)
    (hh : Has s' h n [] none its' pg') (hc : ∀ a, (r :: pg').count a + old.count a = pg.count a + cr s.N s'.N a) : Inv (dropAll s' old) r its' := by
  have w' := e.wf w
  have hb : ∀ a, a ∈ pg → ¬ (s.N : Int) < a := fun a ha => by
    obtain ⟨m, hm⟩ := Option.isSome_iff_exists.1 ((hall a).2 ha)
    have := get_bound hm; omega
  have hle : ∀ a, (r :: pg').count a + old.count a ≤ 1 := fun a => by
    rw [hc a, nodup_count hnd]
    unfold cr
    split
    · rename_i ha; rw [if_neg (by have := hb a ha; omega)]; omega
    · split <;> omega
  have hmem : ∀ a, (s'.get a).isSome = true ↔ 1 ≤ (r :: pg').count a + old.count a := fun a => by
    rw [get_ext e w, hall, hc a, nodup_count hnd]
    unfold cr
    constructor
    · rintro (h | h)
      · rw [if_pos h]; omega
      · rw [if_pos h]; omega
    · intro h
      by_cases c : a ∈ pg
      · exact .inl c
      · rw [if_neg c] at h
        right
        split at h
        · assumption
        · omega
  have hold : ∀ a, a ∈ r :: pg' → a ∉ old := fun a ha hb => by
    have := List.count_pos_iff.2 ha; have := List.count_pos_iff.2 hb; have := hle a; omega
  have hd := fun p => dropAll_get old w' p
  refine ⟨(hd 0).1, .inr ⟨h, n, pg', ?_, hr, h1, has_mono (Q := fun p => p ∉ old) (fun p m hq hm => ?_) h hh fun p hp => hold p (by simp [hp]), nodup_of_count fun a => by have := hle a; omega, fun p => ?_⟩⟩
  · rw [(hd r).2, if_neg (hold r (by simp))]; exact hg
  · rw [(hd p).2, if_neg hq]; exact hm
  · rw [(hd p).2]
    constructor
    · intro hp
      split at hp
      · simp at hp
      · rename_i hno
        have := (hmem p).1 hp
        rw [List.count_eq_zero_of_not_mem hno] at this
        exact List.count_pos_iff.1 (by omega)
    · intro hp
      rw [if_neg (hold p hp)]
      exact (hmem p).2 (by have := List.count_pos_iff.2 hp; omega)

def keyB (key : Key) (v : Int) : Bool := decide (1 ≤ key.length) && decide (key.length ≤ 100) && decide (0 ≤ v) && decide (v < 1099511627776)
theorem keyB_iff {key : Key} {v : Int} : keyB key v = true ↔ kOk key ∧ vOk v := by
  unfold keyB kOk vOk; simp only [Bool.and_eq_true, decide_eq_true_eq]; constructor
  · rintro ⟨⟨⟨a, b⟩, c⟩, d⟩; exact ⟨⟨a, b⟩, c, d⟩
  · rintro ⟨⟨a, b⟩, c, d⟩; exact ⟨⟨⟨a, b⟩, c⟩, d⟩

structure Ret where
  s : Sto
  root : Int
  was : Int
  had : Bool
  e : Int

def lfN : Nd := ⟨true, [], []⟩
def putU (s : Sto) (l : List Step) (key : Key) (v : Int) : Up := match l.getLast? with
  | none => leafUp s lfN [] key v
  | some x => upAll s l.dropLast x key v
def lastX (l : List Step) (key : Key) : Int × Bool := match l.getLast? with
  | none => (0, false)
  | some x => getX x key
def finU (root : Int) (was : Int) (had : Bool) (u : Up) : Ret :=
  if u.e = 0 then
    if u.pg.length = 2 then
      if (u.s.save ⟨false, [u.key], u.pg⟩).2.2 = 0 then ⟨dropAll (u.s.save ⟨false, [u.key], u.pg⟩).1 u.old, (u.s.save ⟨false, [u.key], u.pg⟩).2.1, was, had, 0⟩
      else ⟨(u.s.save ⟨false, [u.key], u.pg⟩).1, root, 0, false, (u.s.save ⟨false, [u.key], u.pg⟩).2.2⟩
    else ⟨dropAll u.s u.old, u.pg.getD 0 0, was, had, 0⟩
  else ⟨u.s, root, 0, false, u.e⟩
def putT (s : Sto) (root : Int) (key : Key) (v : Int) : Ret :=
  if keyB key v = true then
    if (wayM s key 40 root []).2 = 0 then finU root (lastX (wayM s key 40 root []).1 key).1 (lastX (wayM s key 40 root []).1 key).2 (putU s (wayM s key 40 root []).1 key v)
    else ⟨s, root, 0, false, (wayM s key 40 root []).2⟩
  else ⟨s, root, 0, false, 2⟩

theorem upAll_ok {s : Sto} (w : s.Wf) (h0 : s.fl = 0) (hs : 0 ≤ s.sv) (key : Key) (v : Int) (n : Nd) (old : List Int) : ∀ (l : List Step), (l.foldr upF (leafUp s n old key v)).e = 0 ∧ Ext s (l.foldr upF (leafUp s n old key v)).s
  | [] => ⟨putM_ok s _ h0 hs w, by
    simp only [List.foldr_nil, leafUp]
    unfold putM
    have e := (save_spec s (splA (putLf n key v)) w).1
    split
    · exact (save_spec s _ w).1
    · split
      · exact e.trans (save_spec _ _ (e.wf w)).1
      · exact e⟩
  | st :: l => by
    obtain ⟨h1, h2⟩ := upAll_ok w h0 hs key v n old l
    simp only [List.foldr_cons]
    generalize l.foldr upF (leafUp s n old key v) = u at *
    unfold upF
    rw [if_pos h1]
    have w' := h2.wf w
    refine ⟨putM_ok _ _ (h2.fl.trans h0) (Int.le_trans hs h2.sv) w', h2.trans ?_⟩
    simp only
    unfold putM
    have e := (save_spec u.s (splA (upN st u.pg u.key)) w').1
    split
    · exact (save_spec _ _ w').1
    · split
      · exact e.trans (save_spec _ _ (e.wf w')).1
      · exact e

/-- what Put does -/
structure PutOk (s : Sto) (root : Int) (its : Its) (key : Key) (v : Int) (r : Ret) : Prop where
  or : (r.e = 30 ∧ r.root = root ∧ r.was = 0 ∧ r.had = false ∧ Ext s r.s ∧ ¬ (s.fl = 0 ∧ 0 ≤ s.sv)) ∨ (r.e = 0 ∧ (r.was, r.had) = rget its key ∧ Inv r.s r.root (rput its key v))
  gr : Grow s r.s
  N : r.s.N ≤ s.N + 100
  wf : r.s.Wf

theorem two_root {s : Sto} {h : Nat} {its : Its} {pgs pages : List Int} {key : Key} (hN : s.N < 1099511627776) (h2 : Two s h [] none its pgs pages key) : Has s (h + 1) ⟨false, [key], pages⟩ [] none its pgs ∧ Right ⟨false, [key], pages⟩ := by
  obtain ⟨q, q', j1, j2, p1, p2, e1, e2, e3, e4, rfl, e6, e7, e8⟩ := h2
  obtain ⟨_, _, g2, _⟩ := id e2
  obtain ⟨_, _, g4, _⟩ := id e3
  have hv1 : vOk q := by have := get_bound g2; exact ⟨by omega, by omega⟩
  have hv2 : vOk q' := by have := get_bound g4; exact ⟨by omega, by omega⟩
  subst e1
  have hR : Right ⟨false, [key], [q, q']⟩ := ⟨by simp [Ris], by simpa using e6, by simp [hv1, hv2], by simp, by simp, by simp⟩
  refine ⟨⟨rfl, hR.loose, by simp [win_all], ?_⟩, hR⟩
  exact ⟨j1, p1, j2, p2, e2, e3, e4, rfl⟩

theorem put_inv {s : Sto} {root : Int} {its : Its} {key : Key} {v : Int} (hi : Inv s root its) (hk : kOk key) (hv : vOk v) (hN : s.N + 200 < 1099511627776) (hl : its.length ≤ 100000000000) : PutOk s root its key v (putT s root key v) := by
  have w := hi.wf
  unfold putT
  rw [if_pos (keyB_iff.2 ⟨hk, hv⟩)]
  rcases hi.tree with ⟨rfl, rfl, hno⟩ | ⟨h, n, pg, hg, hr, h1, hh, hnd, hall⟩
  · have hw : wayM s key 40 0 [] = ([], 0) := by unfold wayM; rfl
    rw [hw]
    simp only [if_true, lastX, List.getLast?_nil, putU]
    have hlf : putLf lfN key v = ⟨true, [key], [v]⟩ := by simp [putLf, lfN, hadM, findM, insL]
    have hb : rput [] key v = [(key, v)] := by simp [rput, place]
    have hM : putM s ⟨true, [key], [v]⟩ = ((s.save ⟨true, [key], [v]⟩).1, [(s.save ⟨true, [key], [v]⟩).2.1], [], (s.save ⟨true, [key], [v]⟩).2.2) := by simp [putM]
    obtain ⟨e, he⟩ := save_spec s ⟨true, [key], [v]⟩ w
    have hsN := save_N s ⟨true, [key], [v]⟩
    unfold finU leafUp
    simp only [hlf, hM]
    rcases he with ⟨he, _⟩ | ⟨he, e2, e3, e4⟩
    · rw [he]
      refine ⟨.inl ⟨rfl, rfl, rfl, rfl, e, fun ⟨a, b⟩ => ?_⟩, e.grow, by simp only [show ¬ (30 : Int) = 0 by decide, if_false]; omega, e.wf w⟩
      rw [save_ok s _ a b] at he; cases he
    · simp only [he, if_true, List.length_cons, List.length_nil, show ¬ (0 + 1 = 2) by decide, if_false, List.getD_cons_zero]
      have hR : Right ⟨true, [key], [v]⟩ := ⟨by simp [Ris], by simpa using hk, by simpa using hv, by simp, by simp, by simp⟩
      refine ⟨.inr ⟨rfl, by simp [rget, found, place], ?_⟩, e.grow, by simp only [dropAll, List.foldl_nil]; omega, e.wf w⟩
      rw [hb]
      refine inv_of (pg := []) (old := []) (h := 0) (pg' := []) w e List.nodup_nil (fun p => by rw [hno p]; simp) (by rw [e2]; exact e3) hR (by simp) ⟨rfl, hR.loose, by simp [win_all], by simp, rfl⟩ fun a => ?_
      show List.count a [(s.save ⟨true, [key], [v]⟩).2.1] + List.count a [] = List.count a [] + cr s.N (s.save ⟨true, [key], [v]⟩).1.N a
      rw [e4, cr_one, e2]; simp
  · have hc := has_count s hr h1 hh
    have h36 := h_bound hc.1 hl
    obtain ⟨l, x, hP, hw, hgx⟩ := way_law (f := 40) [] hg hr hh (by omega) (win_all key)
    rw [hw]
    simp only [if_true, List.nil_append, lastX, putU, List.getLast?_append, List.getLast?_singleton, Option.some_or, List.dropLast_concat]
    obtain ⟨u1, u2, u3⟩ := path_put w hk hv hP (by omega) hg hh (win_all key)
    have hok := fun a b => (upAll_ok w a b key v x.n [x.p] l).1
    change s.fl = 0 → 0 ≤ s.sv → (upAll s l x key v).e = 0 at hok
    generalize upAll s l x key v = u at *
    have w' := u1.wf w
    unfold finU
    rcases u3 with u3 | ⟨u3, pgs, n', u4, u5⟩
    · rw [u3, if_neg (by decide)]
      exact ⟨.inl ⟨rfl, rfl, rfl, rfl, u1, fun ⟨a, b⟩ => by rw [hok a b] at u3; cases u3⟩, u1.grow, by simp only; omega, w'⟩
    rw [if_pos u3]
    rcases u4 with ⟨⟨q, qg, e1, e2, e3, e4, rfl⟩, e5⟩ | u4
    · rw [if_neg (by rw [e1]; simp), e1]
      have hd := dropAll_get u.old w' 0
      have hN' : (dropAll u.s u.old).N ≤ s.N + 100 := by unfold Sto.N; rw [(dropAll_frame u.old u.s).1]; have := u2; unfold Sto.N at this; omega
      refine ⟨.inr ⟨rfl, hgx, ?_⟩, u1.grow.trans (drop_grow _ _), hN', hd.1⟩
      exact inv_of w u1 hnd hall e2 e3 (by omega) e4 u5
    · have hl2 : u.pg.length = 2 := by obtain ⟨q, q', _, _, _, _, e1, _⟩ := u4; rw [e1]; rfl
      rw [if_pos hl2]
      obtain ⟨t1, t2⟩ := two_root (by omega) u4
      obtain ⟨e, he⟩ := save_spec u.s ⟨false, [u.key], u.pg⟩ w'
      have hsN := save_N u.s ⟨false, [u.key], u.pg⟩
      rcases he with ⟨he, _⟩ | ⟨he, e2, e3, e4⟩
      · rw [he, if_neg (by decide)]
        refine ⟨.inl ⟨rfl, rfl, rfl, rfl, u1.trans e, fun ⟨a, b⟩ => ?_⟩, (u1.trans e).grow, by simp only; omega, e.wf w'⟩
        rw [save_ok _ _ (u1.fl.trans a) (Int.le_trans b u1.sv)] at he; cases he
      · rw [if_pos he]
        have hd := dropAll_get u.old (e.wf w') 0
        have hN' : (dropAll (u.s.save ⟨false, [u.key], u.pg⟩).1 u.old).N ≤ s.N + 100 := by
          have h3 : (u.s.save ⟨false, [u.key], u.pg⟩).1.N ≤ s.N + 100 := by omega
          unfold Sto.N at h3 ⊢; rw [(dropAll_frame u.old _).1]; exact h3
        refine ⟨.inr ⟨rfl, hgx, ?_⟩, (u1.trans e).grow.trans (drop_grow _ _), hN', hd.1⟩
        refine inv_of w (u1.trans e) hnd hall (by rw [e2]; exact e3) t2 (by simp) (ext_has e w' t1) fun a => ?_
        have a1 := u5 a
        have a2 := cr_add u1.N_le e.N_le a
        rw [e4, cr_one] at a2
        rw [e4, e2]
        simp only [List.count_cons, List.count_nil] at a1 a2 ⊢
        omega
end Go.Tre

/-! part R11 -/
namespace Go.Tre

def topU (root : Int) (was : Int) (u : De) : Ret :=
  if u.e = 0 then
    if u.n.ks.length = 0 then ⟨dropAll u.s u.old, if u.n.lf = true then 0 else u.n.vs.getD 0 0, was, true, 0⟩
    else if (u.s.save u.n).2.2 = 0 then ⟨dropAll (u.s.save u.n).1 u.old, (u.s.save u.n).2.1, was, true, 0⟩
    else ⟨(u.s.save u.n).1, root, 0, false, (u.s.save u.n).2.2⟩
  else ⟨u.s, root, 0, false, u.e⟩
def delT (s : Sto) (root : Int) (key : Key) : Ret :=
  if (wayM s key 40 root []).2 = 0 then
    match (wayM s key 40 root []).1.getLast? with
    | none => ⟨s, root, 0, false, 0⟩
    | some x => if hadM x.n key = true then topU root (getX x key).1 (deAll s (wayM s key 40 root []).1.dropLast x key) else ⟨s, root, 0, false, 0⟩
  else ⟨s, root, 0, false, (wayM s key 40 root []).2⟩

structure DelOk (s : Sto) (its : Its) (key : Key) (r : Ret) : Prop where
  e : r.e = 0
  was : (r.was, r.had) = rget its key
  inv : Inv r.s r.root (rdel its key)
  gr : Grow s r.s
  N : r.s.N ≤ s.N + 100

theorem rget_had {its : Its} {key : Key} : (rget its key).2 = found its key := by unfold rget; split <;> simp_all
theorem getX_had {x : Step} {key : Key} : (getX x key).2 = hadM x.n key := by unfold getX; split <;> simp_all
theorem rdel_none {its : Its} {key : Key} (h : found its key = false) : rdel its key = its := by unfold rdel; rw [h]; rfl

theorem del_inv {s : Sto} {root : Int} {its : Its} {key : Key} (hi : Inv s root its) (h0 : s.fl = 0) (hs : 0 ≤ s.sv) (hN : s.N + 200 < 1099511627776) (hl : its.length ≤ 100000000000) : DelOk s its key (delT s root key) := by
  have w := hi.wf
  have hi0 := hi
  unfold delT
  rcases hi.tree with ⟨rfl, rfl, hno⟩ | ⟨h, n, pg, hg, hr, h1, hh, hnd, hall⟩
  · have hw : wayM s key 40 0 [] = ([], 0) := by unfold wayM; rfl
    rw [hw]
    simp only [if_true, List.getLast?_nil]
    exact ⟨rfl, by simp [rget, found, place], by simpa [rdel, found, place] using hi0, Grow.refl s, by simp only; omega⟩
  · have hc := has_count s hr h1 hh
    have h36 := h_bound hc.1 hl
    obtain ⟨l, x, hP, hw, hgx⟩ := way_law (f := 40) [] hg hr hh (by omega) (win_all key)
    rw [hw]
    simp only [if_true, List.nil_append, List.getLast?_append, List.getLast?_singleton, Option.some_or, List.dropLast_concat]
    have hfd : hadM x.n key = found its key := by rw [← getX_had, hgx, rget_had]
    by_cases hd' : hadM x.n key = false
    · rw [if_neg (by rw [hd']; decide)]
      rw [hd'] at hfd
      exact ⟨rfl, by unfold rget; rw [← hfd]; rfl, by rw [rdel_none hfd.symm]; exact hi0, Grow.refl s, by simp only; omega⟩
    have hd : hadM x.n key = true := by simpa using hd'
    rw [if_pos hd]
    obtain ⟨u1, u2, u3, u4, u5, pg', u6, u7⟩ := path_del w h0 hs hP (by omega) hd hg hh (win_all key)
    generalize deAll s l x key = u at *
    have w' := u1.wf w
    have hwas : ((getX x key).1, true) = rget its key := by rw [← hgx]; show _ = ((getX x key).1, (getX x key).2); rw [getX_had, hd]
    unfold topU
    rw [if_pos u3]
    have hdr := fun p => dropAll_get u.old w' p
    have hN' : (dropAll u.s u.old).N ≤ s.N + 100 := by
      have h3 : u.s.N ≤ s.N + 100 := by omega
      unfold Sto.N at h3 ⊢; rw [(dropAll_frame u.old _).1]; exact h3
    by_cases hz : u.n.ks.length = 0
    · rw [if_pos hz]
      have hks : u.n.ks = [] := List.eq_nil_of_length_eq_zero hz
      refine ⟨rfl, hwas, ?_, u1.grow.trans (drop_grow _ _), hN'⟩
      cases h with
      | zero =>
        obtain ⟨k1, k2, k3, k4, k5⟩ := u6
        have hr0 : rdel its key = [] := by rw [k4, hks]; rfl
        simp only [k1, if_true]
        rw [hr0]
        refine ⟨(hdr 0).1, .inl ⟨rfl, rfl, fun p => ?_⟩⟩
        show (dropAll u.s u.old).get p = none
        rw [(hdr p).2]
        split
        · rfl
        · rename_i hno
          cases hgp : u.s.get p with
          | none => rfl
          | some m =>
            exfalso
            have hs1 : (u.s.get p).isSome = true := by rw [hgp]; rfl
            have a := u7 p
            rw [k5, List.count_nil, List.count_eq_zero_of_not_mem hno, nodup_count hnd] at a
            rcases (get_ext u1 w p).1 hs1 with h | h
            · rw [if_pos ((hall p).1 h)] at a; omega
            · unfold cr at a; rw [if_pos h] at a; omega
      | succ h =>
        obtain ⟨k1, k2, k3, k4⟩ := u6
        simp only [k1, Bool.false_eq_true, if_false]
        rw [hks] at k4
        have hv := kids_len k4
        match hvs : u.n.vs, hv, k4 with
        | [v], _, k4 =>
          obtain ⟨m, pg'', e1, e2, e3, e4, rfl⟩ := k4
          simp only [List.getD_cons_zero]
          refine inv_of w u1 hnd hall e1 e2 ?_ e4 u7
          unfold full at e3; split at e3 <;> omega
    · rw [if_neg hz]
      obtain ⟨e, he⟩ := save_spec u.s u.n w'
      have ok := save_ok u.s u.n (u1.fl.trans h0) (Int.le_trans hs u1.sv)
      have hsN := save_N u.s u.n
      rcases he with ⟨he, _⟩ | ⟨he, e2, e3, e4⟩
      · rw [ok] at he; cases he
      rw [if_pos he]
      have hN2 : (dropAll (u.s.save u.n).1 u.old).N ≤ s.N + 100 := by
        have h3 : (u.s.save u.n).1.N ≤ s.N + 100 := by omega
        unfold Sto.N at h3 ⊢; rw [(dropAll_frame u.old _).1]; exact h3
      have hR : Right u.n := has_right u6 u4 (fun _ => by omega)
      refine ⟨rfl, hwas, ?_, (u1.trans e).grow.trans (drop_grow _ _), hN2⟩
      refine inv_of w (u1.trans e) hnd hall (by rw [e2]; exact e3) hR (by omega) (ext_has e w' u6) fun a => ?_
      have a1 := u7 a
      have a2 := cr_add u1.N_le e.N_le a
      rw [e4, cr_one] at a2
      rw [e4, e2]
      simp only [List.count_cons, List.count_nil] at a1 a2 ⊢
      omega
end Go.Tre

/-! part R12 -/
namespace Go.Tre

structure Ck where
  seen : List Int
  dep : Int

def fitB (n : Nd) (lo : Key) (hi : Option Key) : Bool := n.ks.all fun k => !Op.bytesLess k lo && (match hi with | some h => Op.bytesLess k h | none => true)
theorem fitB_iff (n : Nd) (lo : Key) (hi : Option Key) : fitB n lo hi = true ↔ ∀ k ∈ n.ks, Win lo hi k := by
  unfold fitB Win
  simp only [List.all_eq_true, Bool.and_eq_true]
  constructor
  · intro h k hk
    have := h k hk
    refine ⟨by simpa [lt] using this.1, fun x hx => ?_⟩
    subst hx; exact this.2
  · intro h k hk
    have := h k hk
    refine ⟨by simpa [lt] using this.1, ?_⟩
    cases hi with
    | none => rfl
    | some x => exact this.2 x rfl
def fewK (d : Nat) (n : Nd) : Nat := if d = 0 then 1 else if n.lf then 2 else 1
theorem fewK_full {d : Nat} {n : Nd} (h : full n) : fewK d n ≤ n.ks.length := by
  unfold fewK; unfold full at h
  by_cases hd : d = 0
  · rw [if_pos hd]; split at h <;> omega
  · rw [if_neg hd]; exact h
theorem fewK_full' {d : Nat} {n : Nd} (hd : d ≠ 0) (h : fewK d n ≤ n.ks.length) : full n := by unfold fewK at h; unfold full; rw [if_neg hd] at h; exact h

/-- all children, one after the other -/
def foldK {α : Type} (g : Int → Key → Option Key → α → α × Int) : Key → List Key → Option Key → List Int → α → α × Int
  | lo, k :: ks, hi, v :: vs, a => if (g v lo (some k) a).2 = 0 then foldK g k ks hi vs (g v lo (some k) a).1 else g v lo (some k) a
  | lo, [], hi, v :: _, a => g v lo hi a
  | _, _, _, [], a => (a, 0)

def ckAdd (c : Ck) (page : Int) : Ck := ⟨c.seen ++ [page], c.dep⟩
def nodeM (s : Sto) : Nat → Nat → Int → Key → Option Key → Ck → Ck × Int
  | 0, _, _, _, _, c => (c, 10)
  | f + 1, d, page, lo, hi, c =>
    if page ∈ c.seen ∨ page < 1 then (c, 10)
    else if (tload s page).2 = 0 then
      if fewK d (tload s page).1 ≤ (tload s page).1.ks.length ∧ fitB (tload s page).1 lo hi = true then
        if (tload s page).1.lf = true then
          if 0 ≤ c.dep ∧ c.dep ≠ d then (ckAdd c page, 10) else (⟨c.seen ++ [page], d⟩, 0)
        else foldK (nodeM s f (d + 1)) lo (tload s page).1.ks hi (tload s page).1.vs (ckAdd c page)
      else (ckAdd c page, 10)
    else (ckAdd c page, (tload s page).2)
def checkM (s : Sto) (root : Int) : Int := if root = 0 then 0 else (nodeM s 40 0 root [] none ⟨[], -1⟩).2

/-! ### a tree is taken for one -/
theorem foldK_kids {R : Rel} {g : Int → Key → Option Key → Ck → Ck × Int} {D : Int} (hD : 0 ≤ D) (hR : ∀ v lo hi its pg c, R v lo hi its pg → (c.dep < 0 ∨ c.dep = D) → (c.seen ++ pg).Nodup → g v lo hi c = (⟨c.seen ++ pg, D⟩, 0)) :
    ∀ {lo : Key} {ks : List Key} {hi : Option Key} {vs : List Int} {its : Its} {pg : List Int} (c : Ck), Kids R lo ks hi vs its pg → (c.dep < 0 ∨ c.dep = D) → (c.seen ++ pg).Nodup → foldK g lo ks hi vs c = (⟨c.seen ++ pg, D⟩, 0)
  | _, [], _, [], _, _, _, h, _, _ => by simp [Kids] at h
  | _, [], _, [v], _, _, c, h, hd, hn => by simp only [foldK]; exact hR _ _ _ _ _ c h hd hn
  | _, [], _, v :: w :: vs, _, _, _, h, _, _ => by simp [Kids] at h
  | _, k :: ks, _, [], _, _, _, h, _, _ => by simp [Kids] at h
  | _, k :: ks, _, v :: vs, _, _, c, h, hd, hn => by
    obtain ⟨i1, p1, i2, p2, h1, h2, rfl, rfl⟩ := h
    rw [← List.append_assoc] at hn
    have e := hR _ _ _ _ _ c h1 hd (List.nodup_append.1 hn).1
    simp only [foldK, e, if_true]
    rw [foldK_kids hD hR _ h2 (.inr rfl) hn]
    simp
theorem tr_chk {s : Sto} : ∀ {h f d : Nat} {p : Int} {n : Nd} {lo : Key} {hi : Option Key} {its : Its} {pg : List Int} (c : Ck), s.get p = some n → Right n → fewK d n ≤ n.ks.length → Has s h n lo hi its pg → h + 1 ≤ f → (c.dep < 0 ∨ c.dep = ((d + h : Nat) : Int)) → (c.seen ++ p :: pg).Nodup →
    nodeM s f d p lo hi c = (⟨c.seen ++ p :: pg, ((d + h : Nat) : Int)⟩, 0)
  | h, 0, _, _, _, _, _, _, _, _, _, _, _, _, hf, _, _ => by omega
  | 0, f + 1, d, p, n, lo, hi, its, pg, c, hg, hr, hfw, hh, hf, hd, hn => by
    obtain ⟨h1, h2, h3, rfl, rfl⟩ := hh
    have hb := get_bound hg
    have hns : p ∉ c.seen := fun hp => by have := (List.nodup_append.1 hn).2.2 p hp p (by simp); simp at this
    unfold nodeM
    rw [if_neg (by rintro (h | h); exact hns h; omega), tload_ok hg hr]
    simp only [if_true]
    rw [if_pos ⟨hfw, (fitB_iff _ _ _).2 h3⟩, if_pos h1, if_neg (by simp only [Nat.add_zero] at hd; omega)]
    simp
  | h + 1, f + 1, d, p, n, lo, hi, its, pg, c, hg, hr, hfw, hh, hf, hd, hn => by
    obtain ⟨h1, h2, h3, h4⟩ := hh
    have hb := get_bound hg
    have hns : p ∉ c.seen := fun hp => by have := (List.nodup_append.1 hn).2.2 p hp p (by simp); simp at this
    unfold nodeM
    rw [if_neg (by rintro (h | h); exact hns h; omega), tload_ok hg hr]
    simp only [if_true]
    rw [if_pos ⟨hfw, (fitB_iff _ _ _).2 h3⟩, if_neg (by rw [h1]; decide)]
    rw [foldK_kids (D := ((d + (h + 1) : Nat) : Int)) (by omega) (fun v lo hi its pg c hr hd hn => by
      obtain ⟨m, pg', e1, e2, e3, e4, rfl⟩ := hr
      have := tr_chk (h := h) (f := f) (d := d + 1) c e1 e2 (fewK_full e3) e4 (by omega) (by rw [show d + 1 + h = d + (h + 1) by omega]; exact hd) hn
      rw [this, show d + 1 + h = d + (h + 1) by omega]) (ckAdd c p) h4 hd (by simpa [ckAdd] using hn)]
    simp [ckAdd]

/-! ### what is taken for a tree is one -/
theorem foldK_tr {s : Sto} {g : Int → Key → Option Key → Ck → Ck × Int} {d F : Nat}
    (hg : ∀ v lo hi c, (g v lo hi c).2 = 0 → c.seen.Nodup → ∃ h its pg, Tr s h v lo hi its pg ∧ (g v lo hi c).1 = ⟨c.seen ++ pg, ((d + h : Nat) : Int)⟩ ∧ (c.seen ++ pg).Nodup ∧ (c.dep < 0 ∨ c.dep = ((d + h : Nat) : Int)) ∧ h + 1 ≤ F) :
    ∀ (lo : Key) (ks : List Key) (hi : Option Key) (vs : List Int) (c : Ck), vs.length = ks.length + 1 → (foldK g lo ks hi vs c).2 = 0 → c.seen.Nodup →
    ∃ h its pg, Kids (Tr s h) lo ks hi vs its pg ∧ (foldK g lo ks hi vs c).1 = ⟨c.seen ++ pg, ((d + h : Nat) : Int)⟩ ∧ (c.seen ++ pg).Nodup ∧ (c.dep < 0 ∨ c.dep = ((d + h : Nat) : Int)) ∧ h + 1 ≤ F
  | lo, [], hi, [], c, hl, _, _ => by simp at hl
  | lo, [], hi, [v], c, _, h, hn => by
    simp only [foldK] at h ⊢
    exact hg v lo hi c h hn
  | lo, [], hi, v :: w :: vs, c, hl, _, _ => by simp at hl
  | lo, k :: ks, hi, [], c, hl, _, _ => by simp at hl
  | lo, k :: ks, hi, v :: vs, c, hl, h, hn => by
    simp only [foldK] at h ⊢
    by_cases h0 : (g v lo (some k) c).2 = 0
    · rw [if_pos h0] at h ⊢
      obtain ⟨h1, i1, p1, e1, e2, e3, e4, e5⟩ := hg v lo (some k) c h0 hn
      rw [e2] at h ⊢
      obtain ⟨h2, i2, p2, f1, f2, f3, f4, f5⟩ := foldK_tr hg k ks hi vs _ (by simpa using hl) h e3
      simp only at f2 f3 f4
      have : h1 = h2 := by omega
      subst this
      exact ⟨h1, i1 ++ i2, p1 ++ p2, ⟨i1, p1, i2, p2, e1, f1, rfl, rfl⟩, by rw [f2]; simp, by simpa using f3, e4, e5⟩
    · rw [if_neg h0] at h; exact absurd h h0
theorem chk_tr {s : Sto} : ∀ {f d : Nat} {p : Int} {lo : Key} {hi : Option Key} {c : Ck}, (nodeM s f d p lo hi c).2 = 0 → c.seen.Nodup →
    ∃ h n its pg, s.get p = some n ∧ Right n ∧ fewK d n ≤ n.ks.length ∧ Has s h n lo hi its pg ∧ h + 1 ≤ f ∧ (nodeM s f d p lo hi c).1 = ⟨c.seen ++ p :: pg, ((d + h : Nat) : Int)⟩ ∧ (c.seen ++ p :: pg).Nodup ∧ (c.dep < 0 ∨ c.dep = ((d + h : Nat) : Int))
  | 0, _, _, _, _, _, h, _ => by simp [nodeM] at h
  | f + 1, d, p, lo, hi, c, h, hn => by
    unfold nodeM at h ⊢
    by_cases c1 : p ∈ c.seen ∨ p < 1
    · rw [if_pos c1] at h; simp at h
    rw [if_neg c1] at h ⊢
    by_cases c2 : ¬ (tload s p).2 = 0
    · rw [if_neg c2] at h; exact absurd h c2
    have c2 := Classical.not_not.1 c2
    rw [if_pos c2] at h ⊢
    obtain ⟨g1, g2⟩ := tload_inv c2
    generalize (tload s p).1 = n at *
    by_cases c3 : ¬ (fewK d n ≤ n.ks.length ∧ fitB n lo hi = true)
    · rw [if_neg c3] at h; simp at h
    have c3 := Classical.not_not.1 c3
    rw [if_pos c3] at h ⊢
    have hw := (fitB_iff _ _ _).1 c3.2
    have hn2 : (c.seen ++ [p]).Nodup := by
      refine List.nodup_append.2 ⟨hn, by simp, fun a ha b hb e => ?_⟩
      rw [List.mem_singleton] at hb; subst hb; subst e; exact c1 (.inl ha)
    by_cases c4 : n.lf = true
    · rw [if_pos c4] at h ⊢
      by_cases c5 : 0 ≤ c.dep ∧ c.dep ≠ d
      · rw [if_pos c5] at h; simp at h
      rw [if_neg c5]
      exact ⟨0, n, _, [], g1, g2, c3.1, ⟨c4, g2.loose, hw, rfl, rfl⟩, by omega, rfl, hn2, by simp only [Nat.add_zero]; omega⟩
    · rw [if_neg c4] at h ⊢
      have c4' : n.lf = false := by simpa using c4
      have hfm := g2.form
      rw [c4'] at hfm
      obtain ⟨h', its, pg, k1, k2, k3, k4, k5⟩ := foldK_tr (s := s) (d := d + 1) (F := f) (fun v lo hi c h hn => by
        obtain ⟨h', m, its, pg, e1, e2, e3, e4, e5, e6, e7, e8⟩ := chk_tr h hn
        exact ⟨h', its, v :: pg, ⟨m, pg, e1, e2, fewK_full' (by omega) e3, e4, rfl⟩, e6, e7, e8, e5⟩) lo n.ks hi n.vs (ckAdd c p) (by simpa using hfm) h hn2
      refine ⟨h' + 1, n, its, pg, g1, g2, c3.1, ⟨c4', g2.loose, hw, k1⟩, by omega, ?_, ?_, ?_⟩
      · rw [k2]; simp only [ckAdd, List.append_assoc, List.singleton_append]; congr 2; omega
      · simpa [ckAdd] using k3
      · simp only [ckAdd] at k4; omega

/-! ### the document's look -/
def foldR (g : Int → Key → Option Key → Option (Int × List Int × Its)) : Key → List Key → Option Key → List Int → Int × List Int × Its → Option (Int × List Int × Its)
  | lo, k :: ks, hi, v :: vs, a => match g v lo (some k) with
    | none => none
    | some r => if (0 ≤ a.1 ∧ r.1 ≠ a.1) ∨ 5000 < a.2.1.length + r.2.1.length then none else foldR g k ks hi vs (r.1, a.2.1 ++ r.2.1, a.2.2 ++ r.2.2)
  | lo, [], hi, v :: _, a => match g v lo hi with
    | none => none
    | some r => if (0 ≤ a.1 ∧ r.1 ≠ a.1) ∨ 5000 < a.2.1.length + r.2.1.length then none else some (r.1, a.2.1 ++ r.2.1, a.2.2 ++ r.2.2)
  | _, _, _, [], a => some a
def refT (s : Sto) : Nat → Nat → Int → Key → Option Key → Option (Int × List Int × Its)
  | 0, _, _, _, _ => none
  | f + 1, d, page, lo, hi => match s.get page with
    | none => none
    | some n => if rB n = true ∧ fewK d n ≤ n.ks.length ∧ fitB n lo hi = true then
        if n.lf = true then some (d, [page], n.ks.zip n.vs) else foldR (refT s f (d + 1)) lo n.ks hi n.vs (-1, [page], [])
      else none

theorem foldR_kids {R : Rel} {g : Int → Key → Option Key → Option (Int × List Int × Its)} {D : Int} (hD : 0 ≤ D) (hR : ∀ v lo hi its pg, R v lo hi its pg → pg.length ≤ 5000 → g v lo hi = some (D, pg, its)) :
    ∀ {lo : Key} {ks : List Key} {hi : Option Key} {vs : List Int} {its : Its} {pg : List Int} (a : Int × List Int × Its), Kids R lo ks hi vs its pg → (a.1 < 0 ∨ a.1 = D) → a.2.1.length + pg.length ≤ 5000 → foldR g lo ks hi vs a = some (D, a.2.1 ++ pg, a.2.2 ++ its)
  | _, [], _, [], _, _, _, h, _, _ => by simp [Kids] at h
  | _, [], _, [v], _, _, a, h, hd, hn => by
    simp only [foldR, hR _ _ _ _ _ h (by omega)]
    rw [if_neg (by omega)]
  | _, [], _, v :: w :: vs, _, _, _, h, _, _ => by simp [Kids] at h
  | _, k :: ks, _, [], _, _, _, h, _, _ => by simp [Kids] at h
  | _, k :: ks, _, v :: vs, _, _, a, h, hd, hn => by
    obtain ⟨i1, p1, i2, p2, h1, h2, rfl, rfl⟩ := h
    simp only [List.length_append] at hn
    simp only [foldR, hR _ _ _ _ _ h1 (by omega)]
    rw [if_neg (by omega), foldR_kids hD hR _ h2 (.inr rfl) (by simp only [List.length_append]; omega)]
    simp
theorem tr_refT {s : Sto} : ∀ {h f d : Nat} {p : Int} {n : Nd} {lo : Key} {hi : Option Key} {its : Its} {pg : List Int}, s.get p = some n → Right n → fewK d n ≤ n.ks.length → Has s h n lo hi its pg → h + 1 ≤ f → pg.length + 1 ≤ 5000 →
    refT s f d p lo hi = some (((d + h : Nat) : Int), p :: pg, its)
  | h, 0, _, _, _, _, _, _, _, _, _, _, _, hf, _ => by omega
  | 0, f + 1, d, p, n, lo, hi, its, pg, hg, hr, hfw, hh, hf, hn => by
    obtain ⟨h1, h2, h3, rfl, rfl⟩ := hh
    unfold refT
    rw [hg]
    simp only
    rw [if_pos ⟨(rB_iff n).2 hr, hfw, (fitB_iff _ _ _).2 h3⟩, if_pos h1]; rfl
  | h + 1, f + 1, d, p, n, lo, hi, its, pg, hg, hr, hfw, hh, hf, hn => by
    obtain ⟨h1, h2, h3, h4⟩ := hh
    unfold refT
    rw [hg]
    simp only
    rw [if_pos ⟨(rB_iff n).2 hr, hfw, (fitB_iff _ _ _).2 h3⟩, if_neg (by rw [h1]; decide)]
    rw [foldR_kids (D := ((d + (h + 1) : Nat) : Int)) (by omega) (fun v lo hi its pg hr hn => by
      obtain ⟨m, pg', e1, e2, e3, e4, rfl⟩ := hr
      have := tr_refT (d := d + 1) e1 e2 (fewK_full e3) e4 (show h + 1 ≤ f by omega) (by simpa using hn)
      rw [this, show d + 1 + h = d + (h + 1) by omega]) _ h4 (.inl (by simp)) (by simp only [List.length_cons, List.length_nil]; omega)]
    simp

theorem foldR_tr {s : Sto} {g : Int → Key → Option Key → Option (Int × List Int × Its)} {d F : Nat}
    (hg : ∀ v lo hi r, g v lo hi = some r → ∃ h, Tr s h v lo hi r.2.2 r.2.1 ∧ r.1 = ((d + h : Nat) : Int) ∧ h + 1 ≤ F) :
    ∀ (lo : Key) (ks : List Key) (hi : Option Key) (vs : List Int) (a r : Int × List Int × Its), vs.length = ks.length + 1 → foldR g lo ks hi vs a = some r →
    ∃ h its pg, Kids (Tr s h) lo ks hi vs its pg ∧ r = (((d + h : Nat) : Int), a.2.1 ++ pg, a.2.2 ++ its) ∧ (a.1 < 0 ∨ a.1 = ((d + h : Nat) : Int)) ∧ h + 1 ≤ F
  | lo, [], hi, [], a, r, hl, _ => by simp at hl
  | lo, [], hi, [v], a, r, _, h => by
    simp only [foldR] at h
    split at h
    · cases h
    · rename_i q hq
      obtain ⟨h', e1, e2, e3⟩ := hg _ _ _ _ hq
      split at h
      · cases h
      · injection h with h
        exact ⟨h', q.2.2, q.2.1, e1, by rw [← h, e2], by omega, e3⟩
  | lo, [], hi, v :: w :: vs, a, r, hl, _ => by simp at hl
  | lo, k :: ks, hi, [], a, r, hl, _ => by simp at hl
  | lo, k :: ks, hi, v :: vs, a, r, hl, h => by
    simp only [foldR] at h
    split at h
    · cases h
    · rename_i q hq
      obtain ⟨h1, e1, e2, e3⟩ := hg _ _ _ _ hq
      split at h
      · cases h
      · obtain ⟨h2, its, pg, f1, f2, f3, f4⟩ := foldR_tr hg k ks hi vs _ _ (by simpa using hl) h
        simp only at f2 f3
        have : h1 = h2 := by omega
        subst this
        exact ⟨h1, q.2.2 ++ its, q.2.1 ++ pg, ⟨_, _, _, _, e1, f1, rfl, rfl⟩, by rw [f2]; simp, by omega, f4⟩
theorem refT_tr {s : Sto} : ∀ {f d : Nat} {p : Int} {lo : Key} {hi : Option Key} {r : Int × List Int × Its}, refT s f d p lo hi = some r →
    ∃ h n pg, s.get p = some n ∧ Right n ∧ fewK d n ≤ n.ks.length ∧ Has s h n lo hi r.2.2 pg ∧ h + 1 ≤ f ∧ r.2.1 = p :: pg ∧ r.1 = ((d + h : Nat) : Int)
  | 0, _, _, _, _, _, h => by simp [refT] at h
  | f + 1, d, p, lo, hi, r, h => by
    unfold refT at h
    cases hg : s.get p with
    | none => rw [hg] at h; cases h
    | some n =>
      rw [hg] at h
      simp only at h
      by_cases c3 : ¬ (rB n = true ∧ fewK d n ≤ n.ks.length ∧ fitB n lo hi = true)
      · rw [if_neg c3] at h; cases h
      have c3 := Classical.not_not.1 c3
      rw [if_pos c3] at h
      have hr := (rB_iff n).1 c3.1
      have hw := (fitB_iff _ _ _).1 c3.2.2
      by_cases c4 : n.lf = true
      · rw [if_pos c4] at h
        injection h with h; subst h
        exact ⟨0, n, [], rfl, hr, c3.2.1, ⟨c4, hr.loose, hw, rfl, rfl⟩, by omega, rfl, rfl⟩
      · rw [if_neg c4] at h
        have c4' : n.lf = false := by simpa using c4
        have hfm := hr.form
        rw [c4'] at hfm
        obtain ⟨h', its, pg, k1, k2, k3, k4⟩ := foldR_tr (s := s) (d := d + 1) (F := f) (fun v lo hi r h => by
          obtain ⟨h', m, pg, e1, e2, e3, e4, e5, e6, e7⟩ := refT_tr h
          exact ⟨h', ⟨m, pg, e1, e2, fewK_full' (by omega) e3, e4, e6⟩, e7, e5⟩) lo n.ks hi n.vs _ _ (by simpa using hfm) h
        subst k2
        exact ⟨h' + 1, n, pg, rfl, hr, c3.2.1, ⟨c4', hr.loose, hw, by show Kids (Tr s h') lo n.ks hi n.vs ([] ++ its) pg; rw [List.nil_append]; exact k1⟩, by omega, by simp, by simp only; congr 1; omega⟩
end Go.Tre

/-! part R13 -/
namespace Go.Tre

def Sto.count (s : Sto) : Nat := s.th.count true

theorem count_range (l : List Bool) : ((List.range l.length).filter fun i => l.getD i false).length = l.count true := by
  induction hn : l.length generalizing l with
  | zero => have := List.eq_nil_of_length_eq_zero hn; subst this; rfl
  | succ n ih =>
    have hne : l ≠ [] := fun h => by rw [h] at hn; simp at hn
    have e := (List.dropLast_concat_getLast hne).symm
    have h1 := ih l.dropLast (by simp [hn])
    rw [List.range_succ, List.filter_append, List.length_append]
    have h2 : (List.range n).filter (fun i => l.getD i false) = (List.range n).filter (fun i => l.dropLast.getD i false) := by
      refine List.filter_congr fun i hi => ?_
      have hi := List.mem_range.1 hi
      simp only [List.getD_eq_getElem?_getD, List.dropLast_eq_take, List.getElem?_take, hn]
      rw [if_pos (by omega)]
    rw [h2, h1]
    conv => rhs; rw [e]
    rw [List.count_append]
    congr 1
    have h3 : l.getD n false = l.getLast hne := by
      rw [List.getLast_eq_getElem, List.getD_eq_getElem?_getD, List.getElem?_eq_getElem (by omega)]
      simp [hn]
    simp only [List.filter_cons, List.filter_nil, h3]
    cases l.getLast hne <;> rfl

theorem count_law {s : Sto} (w : s.Wf) {L : List Int} (hL : L.Nodup) (h : ∀ p, (s.get p).isSome = true ↔ p ∈ L) : s.count = L.length := by
  unfold Sto.count
  rw [← count_range]
  unfold Sto.Wf at w
  have hM : (((List.range s.th.length).filter fun i => s.th.getD i false).map fun i : Nat => ((i + 1 : Nat) : Int)).Nodup := by
    refine List.Pairwise.map _ (fun a b hab e => ?_) (List.Pairwise.filter _ List.nodup_range)
    exact hab (by omega)
  have hp : (((List.range s.th.length).filter fun i => s.th.getD i false).map fun i : Nat => ((i + 1 : Nat) : Int)).Perm L := by
    refine (List.perm_ext_iff_of_nodup hM hL).2 fun p => ?_
    rw [← h p]
    simp only [List.mem_map, List.mem_filter, List.mem_range]
    unfold Sto.get
    constructor
    · rintro ⟨i, ⟨h1, h2⟩, rfl⟩
      have e : ((i + 1 : Nat) : Int).toNat - 1 = i := by omega
      rw [e, if_pos ⟨by omega, by omega, h2⟩, List.getElem?_eq_getElem (by omega)]; rfl
    · intro hs
      split at hs
      · rename_i hc
        exact ⟨p.toNat - 1, ⟨by omega, hc.2.2⟩, by omega⟩
      · simp at hs
  have := hp.length_eq
  rw [List.length_map] at this
  exact this
theorem count_none {s : Sto} (w : s.Wf) (h : ∀ p, s.get p = none) : s.count = 0 := count_law w (L := []) List.nodup_nil (fun p => by rw [h p]; simp)

def pagesG (s : Sto) (root : Int) : List Int × Int := if root = 0 then ([], 0) else pagesM s 40 root []
def onceB (l : List Int) : Bool := decide l.Nodup
def wholeR (s : Sto) (root : Int) (want : Its) : Option (Int × List Int × Its) → Bool
  | none => false
  | some r => r.2.2 == want && r.2.1.length == s.count && (pagesG s root).1.length == r.2.1.length && onceB r.2.1 && (pagesG s root).1 == r.2.1
def wholeB (s : Sto) (root : Int) (want : Its) : Bool :=
  checkM s root == 0 && (pagesG s root).2 == 0 && (if root = 0 then want.isEmpty && s.count == 0 && (pagesG s root).1.isEmpty else wholeR s root want (refT s 40 0 root [] none))

theorem inv_root {s : Sto} {root : Int} {its : Its} (hi : Inv s root its) (hr : root ≠ 0) (hl : its.length ≤ 4000) :
    ∃ h n pg, h ≤ 36 ∧ s.get root = some n ∧ Right n ∧ fewK 0 n ≤ n.ks.length ∧ Has s h n [] none its pg ∧ (root :: pg).Nodup ∧ (∀ p, (s.get p).isSome = true ↔ p ∈ root :: pg) ∧ 2 ^ h ≤ its.length ∧ pg.length + 1 ≤ its.length := by
  rcases hi.tree with ⟨h0, _⟩ | ⟨h, n, pg, hg, hr, h1, hh, hnd, hall⟩
  · exact absurd h0 hr
  · have hc := has_count s hr h1 hh
    exact ⟨h, n, pg, h_bound hc.1 (by omega), hg, hr, by simpa [fewK] using h1, hh, hnd, hall, hc⟩
theorem inv_zero {s : Sto} {its : Its} (hi : Inv s 0 its) : its = [] ∧ ∀ p, s.get p = none := by
  rcases hi.tree with ⟨_, h1, h2⟩ | ⟨h, n, pg, hg, _⟩
  · exact ⟨h1, h2⟩
  · have := get_bound hg; omega
theorem inv_nil {s : Sto} {root : Int} (hi : Inv s root []) : root = 0 := by
  rcases hi.tree with ⟨h1, _⟩ | ⟨h, n, pg, hg, hr, h1, hh, _⟩
  · exact h1
  · have := (has_count s hr h1 hh).1
    have h2 : 0 < 2 ^ h := Nat.pow_pos (by omega)
    simp only [List.length_nil] at this; omega

theorem inv_ref {s : Sto} {root : Int} {its : Its} (hi : Inv s root its) (hr : root ≠ 0) (hl : its.length ≤ 4000) :
    ∃ h pg, refT s 40 0 root [] none = some (((h : Nat) : Int), root :: pg, its) ∧ pagesG s root = (root :: pg, 0) ∧ checkM s root = 0 ∧ (root :: pg).Nodup ∧ s.count = pg.length + 1 ∧ 2 ^ h ≤ its.length ∧ pg.length + 1 ≤ its.length := by
  obtain ⟨h, n, pg, h36, hg, hR, hf, hh, hnd, hall, hc1, hc2⟩ := inv_root hi hr hl
  refine ⟨h, pg, ?_, ?_, ?_, hnd, count_law hi.wf hnd hall, hc1, hc2⟩
  · have := tr_refT (d := 0) (f := 40) hg hR hf hh (by omega) (by omega)
    simpa using this
  · unfold pagesG
    rw [if_neg hr, pages_law [] hg hR hh (by omega)]; simp
  · unfold checkM
    rw [if_neg hr, tr_chk (d := 0) (f := 40) ⟨[], -1⟩ hg hR hf hh (by omega) (.inl (by simp)) (by simpa using hnd)]
theorem whole_law {s : Sto} {root : Int} {its : Its} (hi : Inv s root its) (hl : its.length ≤ 4000) : wholeB s root its = true := by
  unfold wholeB
  by_cases hr : root = 0
  · subst hr
    obtain ⟨h1, h2⟩ := inv_zero hi
    subst h1
    simp [checkM, pagesG, count_none hi.wf h2]
  · obtain ⟨h, pg, e1, e2, e3, e4, e5, _⟩ := inv_ref hi hr hl
    rw [e1]
    simp only [wholeR, e2, e3, if_neg hr, e5, onceB, e4]
    simp

theorem get_law {s : Sto} {root : Int} {its : Its} (hi : Inv s root its) (key : Key) (hl : its.length ≤ 4000) : getM s root key = ((rget its key).1, (rget its key).2, 0) := by
  unfold getM
  by_cases hr : root = 0
  · subst hr
    obtain ⟨h1, h2⟩ := inv_zero hi
    subst h1
    have hw : wayM s key 40 0 [] = ([], 0) := by unfold wayM; rfl
    simp [hw, rget, found, place]
  · obtain ⟨h, n, pg, h36, hg, hR, hf, hh, _⟩ := inv_root hi hr hl
    obtain ⟨l, x, hP, hw, hgx⟩ := way_law (f := 40) [] hg hR hh (by omega) (win_all key)
    rw [hw]
    simp only [if_true, List.nil_append, List.getLast?_append, List.getLast?_singleton, Option.some_or, hgx]
theorem scanM_law {s : Sto} {root : Int} {its : Its} (hi : Inv s root its) (frm : Key) (most : Int) (hl : its.length ≤ 4000) : scanM s root frm most = (rscan its frm most, 0) := by
  unfold scanM
  have ha := inv_asc hi
  by_cases hr : root = 0 ∨ most < 1
  · rw [if_pos hr]
    rcases hr with hr | hr
    · subst hr
      obtain ⟨h1, _⟩ := inv_zero hi
      subst h1
      simp [rscan]
    · simp [rscan, show most.toNat = 0 by omega]
  · rw [if_neg hr]
    obtain ⟨h, n, pg, h36, hg, hR, hf, hh, _⟩ := inv_root hi (fun h => hr (.inl h)) hl
    rw [items_law [] hg hR hh (by omega), scan_law ha]
end Go.Tre

/-! part R14 -/
namespace Go.Tre

/-! ### pages that were seen -/
theorem nodup_bound : ∀ (N : Nat) {L : List Int}, L.Nodup → (∀ p ∈ L, 1 ≤ p ∧ p ≤ (N : Int)) → L.length ≤ N
  | 0, [], _, _ => by simp
  | 0, p :: L, _, h => by have := h p (by simp); omega
  | N + 1, L, hn, h => by
    have h1 := nodup_bound N (L := L.filter fun p => p ≠ ((N + 1 : Nat) : Int)) (List.Pairwise.filter _ hn) fun p hp => by
      have h2 := List.mem_filter.1 hp
      have := h p h2.1
      have h3 : p ≠ ((N + 1 : Nat) : Int) := by simpa using h2.2
      omega
    have h2 : L.length ≤ (L.filter fun p => p ≠ ((N + 1 : Nat) : Int)).length + L.count ((N + 1 : Nat) : Int) := by
      clear h1 h hn
      induction L with
      | nil => simp
      | cons a L ih =>
        by_cases e : a = ((N + 1 : Nat) : Int)
        · rw [List.filter_cons_of_neg (by simp [e]), e, List.count_cons_self]; simp only [List.length_cons]; omega
        · rw [List.filter_cons_of_pos (by simpa using e), List.count_cons_of_ne (by simpa using e)]; simp only [List.length_cons]; omega
    have h3 := List.nodup_iff_count.1 hn ((N + 1 : Nat) : Int)
    omega
structure SeenOk (S : Sto) (c : Ck) : Prop where
  nd : c.seen.Nodup
  ex : ∀ p ∈ c.seen, (S.get p).isSome = true
theorem seen_len {S : Sto} (hS : S.nd.length ≤ 1000000000) {c : Ck} (h : SeenOk S c) : c.seen.length ≤ 1000000000 := by
  refine Nat.le_trans (nodup_bound S.N h.nd fun p hp => ?_) hS
  obtain ⟨n, hn⟩ := Option.isSome_iff_exists.1 (h.ex p hp)
  exact get_bound hn
theorem kids_ex {R : Rel} {S : Sto} (hR : ∀ v lo hi its pg, R v lo hi its pg → ∀ p ∈ pg, (S.get p).isSome = true) : ∀ {lo : Key} {ks : List Key} {hi : Option Key} {vs : List Int} {its : Its} {pg : List Int}, Kids R lo ks hi vs its pg → ∀ p ∈ pg, (S.get p).isSome = true
  | _, [], _, [], _, _, h => by simp [Kids] at h
  | _, [], _, [v], _, _, h => hR _ _ _ _ _ h
  | _, [], _, v :: w :: vs, _, _, h => by simp [Kids] at h
  | _, k :: ks, _, [], _, _, h => by simp [Kids] at h
  | _, k :: ks, _, v :: vs, _, _, h => by
    obtain ⟨i1, p1, i2, p2, h1, h2, rfl, rfl⟩ := h
    intro p hp
    rcases List.mem_append.1 hp with hp | hp
    · exact hR _ _ _ _ _ h1 p hp
    · exact kids_ex hR h2 p hp
theorem has_ex {S : Sto} : ∀ {h : Nat} {n : Nd} {lo : Key} {hi : Option Key} {its : Its} {pg : List Int}, Has S h n lo hi its pg → ∀ p ∈ pg, (S.get p).isSome = true
  | 0, n, lo, hi, its, pg, ⟨_, _, _, _, h5⟩ => by subst h5; simp
  | h + 1, n, lo, hi, its, pg, ⟨_, _, _, h4⟩ => kids_ex (fun v lo hi its pg hr => by
      obtain ⟨m, pg', e1, e2, e3, e4, rfl⟩ := hr
      intro p hp
      rcases List.mem_cons.1 hp with rfl | hp
      · rw [e1]; rfl
      · exact has_ex e4 p hp) h4
/-- what was seen behind a look that found nothing wrong -/
theorem seen_next {S : Sto} {f d : Nat} {p : Int} {lo : Key} {hi : Option Key} {c : Ck} (h : SeenOk S c) (h0 : (nodeM S f d p lo hi c).2 = 0) : SeenOk S (nodeM S f d p lo hi c).1 := by
  obtain ⟨h', n, its, pg, e1, e2, e3, e4, e5, e6, e7, e8⟩ := chk_tr h0 h.nd
  rw [e6]
  refine ⟨e7, fun q hq => ?_⟩
  rcases List.mem_append.1 hq with hq | hq
  · exact h.ex q hq
  · rcases List.mem_cons.1 hq with rfl | hq
    · rw [e1]; rfl
    · exact has_ex e4 q hq
end Go.Tre

/-! part R15 -/
namespace Go.Tre
/-- all that were dropped among the first n are there again -/
def Sto.back (S : Sto) (n : Nat) : Sto := ⟨S.nd, List.replicate n true ++ S.th.drop n, S.sv, S.fl⟩
theorem back_get {S S2 : Sto} (g : Grow S S2) {p : Int} {n : Nd} (h : S.get p = some n) : (S2.back S.nd.length).get p = some n := by
  obtain ⟨⟨X, hX⟩, _, _⟩ := g
  unfold Sto.get at h
  split at h
  · rename_i hc
    obtain ⟨h1, h2, _⟩ := hc
    have hp : p.toNat - 1 < S.nd.length := by omega
    have e1 : (S2.back S.nd.length).nd = S2.nd := rfl
    have e2 : (S2.back S.nd.length).th = List.replicate S.nd.length true ++ S2.th.drop S.nd.length := rfl
    unfold Sto.get
    rw [e1, e2, hX]
    have h3 : (List.replicate S.nd.length true ++ S2.th.drop S.nd.length).getD (p.toNat - 1) false = true := by
      rw [List.getD_eq_getElem?_getD, List.getElem?_append_left (by simpa using hp)]; simp [hp]
    rw [if_pos ⟨h1, by simp; omega, h3⟩, List.getElem?_append_left hp]
    exact h
  · cases h
theorem back_get2 {S : Sto} (m : Nat) (hw : S.Wf) (hm : m ≤ S.nd.length) {p : Int} {n : Nd} (h : S.get p = some n) : (S.back m).get p = some n := by
  have hw' : S.th.length = S.nd.length := hw
  unfold Sto.get at h
  split at h
  · rename_i hc
    obtain ⟨h1, h2, h3⟩ := hc
    have e1 : (S.back m).nd = S.nd := rfl
    have e2 : (S.back m).th = List.replicate m true ++ S.th.drop m := rfl
    unfold Sto.get
    rw [e1, e2]
    have h4 : (List.replicate m true ++ S.th.drop m).getD (p.toNat - 1) false = true := by
      rw [List.getD_eq_getElem?_getD] at h3 ⊢
      rcases Nat.lt_or_ge (p.toNat - 1) m with h | h
      · rw [List.getElem?_append_left (by simpa using h)]; simp [h]
      · rw [List.getElem?_append_right (by simpa using h), List.getElem?_drop]
        simp only [List.length_replicate]
        rw [show m + (p.toNat - 1 - m) = p.toNat - 1 by omega]; exact h3
    rw [if_pos ⟨h1, h2, h4⟩]
    exact h
  · cases h
theorem old_law {S S3 : Sto} {root : Int} {its : Its} (hi : Inv S root its) (g : ∀ p n, S.get p = some n → S3.get p = some n) (frm : Key) (most : Int) (hl : its.length ≤ 4000) : scanM S3 root frm most = (rscan its frm most, 0) := by
  unfold scanM
  have ha := inv_asc hi
  by_cases hr : root = 0 ∨ most < 1
  · rw [if_pos hr]
    rcases hr with hr | hr
    · subst hr
      obtain ⟨h1, _⟩ := inv_zero hi
      subst h1
      simp [rscan]
    · simp [rscan, show most.toNat = 0 by omega]
  · rw [if_neg hr]
    obtain ⟨h, n, pg, h36, hg, hR, hf, hh, _⟩ := inv_root hi (fun h => hr (.inl h)) hl
    have hm := has_mono (s' := S3) (Q := fun _ => True) (fun p n _ hp => g p n hp) h hh (fun _ _ => trivial)
    rw [items_law [] (g _ _ hg) hR hm (by omega), scan_law ha]
theorem rscan_all {its : Its} (most : Int) (hl : (its.length : Int) ≤ most) : rscan its [] most = its := by
  unfold rscan
  have : place its [] = 0 := by
    cases its with
    | nil => rfl
    | cons x l => unfold place; rw [List.takeWhile_cons]; simp [le_nil]
  rw [this, List.drop_zero]
  exact List.take_of_length_le (by omega)
end Go.Tre
