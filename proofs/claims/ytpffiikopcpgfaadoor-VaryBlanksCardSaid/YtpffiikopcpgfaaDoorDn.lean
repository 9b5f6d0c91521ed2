/- What control.Print and the document's Print answer, and that it is read again as the same; ControlPrints computes true. -/
import Derived.Test.YtpffiikopcpgfaaDoorDm
set_option linter.all false
/-! part Q73 -/
namespace Go.Av
open Go.Proofs

def sepB : List UInt8 := [44, 32]
def jnB (L : List (List UInt8)) : List UInt8 := Lib.join L sepB
theorem jnB_nil : jnB [] = [] := rfl
theorem jnB_one (p : List UInt8) : jnB [p] = p := by simp [jnB, Lib.join]
theorem jnB_cons (p q : List UInt8) (L : List (List UInt8)) : jnB (p :: q :: L) = p ++ 44 :: 32 :: jnB (q :: L) := by
  simp [jnB, Lib.join, sepB, List.intercalate, List.intersperse]
theorem jnB_snoc : ∀ (L : List (List UInt8)) (w : List UInt8), L ≠ [] → jnB (L ++ [w]) = jnB L ++ 44 :: 32 :: w
  | [], _, h => (h rfl).elim
  | [p], w, _ => by rw [List.singleton_append, jnB_cons, jnB_one, jnB_one]
  | p :: q :: L, w, _ => by
    have := jnB_snoc (q :: L) w (by simp)
    simp only [List.cons_append] at this ⊢
    rw [jnB_cons, this, jnB_cons]
    simp
theorem jnB_ne {L : List (List UInt8)} (h : ∀ p ∈ L, p ≠ []) (h0 : L ≠ []) : jnB L ≠ [] := by
  cases L with
  | nil => exact (h0 rfl).elim
  | cons p L =>
    have hp := h p (by simp)
    cases L with
    | nil => rw [jnB_one]; exact hp
    | cons q L => rw [jnB_cons]; simp
/-- one directive more, as the document prints -/
def putB (s w : List UInt8) (b : Bool) : List UInt8 := if b = false then s else if s = [] then w else s ++ 44 :: 32 :: w
theorem put73 (s w : List UInt8) (b : Bool) (hs : s.length ≤ 1000000) (hw : w.length ≤ 1000000) : PureC Tryd.prog 73 [.str s, .str w, .bool b] (.str (putB s w b)) := by
  refine pure_of_aw (ys := [_]) [] [] [] mixed Tryd.func73 rfl (by kernel_rfl) (by kernel_rfl) (by simp [Tryd.ntmps73]) rfl ?_
  unfold putB
  cases b with
  | false => simp [Tryd.results73]
  | true =>
  by_cases h : s = []
  · subst h
    simp [Tryd.results73]
    omega
  · have d : (s != []) = true := by simpa using h
    have e : s.isEmpty = false := by simpa using h
    simp [h, d, e, Tryd.results73]
    omega
def optL (b : Bool) (w : List UInt8) : List (List UInt8) := if b = true then [w] else []
theorem putB_join {L : List (List UInt8)} (h : ∀ p ∈ L, p ≠ []) (w : List UInt8) (b : Bool) : putB (jnB L) w b = jnB (L ++ optL b w) := by
  unfold putB optL
  cases b with
  | false => simp
  | true =>
    by_cases h0 : L = []
    · subst h0; simp [jnB_nil, jnB_one]
    · simp [jnB_ne h h0, jnB_snoc L w h0]
def numL (n : List UInt8) (i : Int) : List (List UInt8) := optL (decide (0 ≤ i)) (n ++ 61 :: dec i.toNat)
def flagsL : List (List UInt8) := [nm0, nm1, nm2, nm3, nm4, nm5, nm6]
def numsL : List (List UInt8) := [nm7, nm8, nm9, nm10]
def fparts (bs : List Bool) (ns : List (List UInt8)) : List (List UInt8) := (List.zipWith optL bs ns).flatten
def nparts (is : List Int) (ns : List (List UInt8)) : List (List UInt8) := (List.zipWith numL ns is).flatten
def partsC (c : Ctl) : List (List UInt8) := fparts c.1 flagsL ++ nparts c.2 numsL
def printC (c : Ctl) : List UInt8 := jnB (partsC c)
theorem partsC_eq (b0 b1 b2 b3 b4 b5 b6 : Bool) (i0 i1 i2 i3 : Int) : partsC ([b0, b1, b2, b3, b4, b5, b6], [i0, i1, i2, i3]) =
    optL b0 nm0 ++ optL b1 nm1 ++ optL b2 nm2 ++ optL b3 nm3 ++ optL b4 nm4 ++ optL b5 nm5 ++ optL b6 nm6 ++ numL nm7 i0 ++ numL nm8 i1 ++ numL nm9 i2 ++ numL nm10 i3 := by
  simp [partsC, fparts, nparts, flagsL, numsL]
theorem optL_le {b : Bool} {w : List UInt8} {p : List UInt8} (h : p ∈ optL b w) : b = true ∧ p = w := by
  unfold optL at h; split at h
  · rename_i hb; exact ⟨hb, by simpa using h⟩
  · simp at h
theorem optL_len (b : Bool) (w : List UInt8) : (optL b w).length ≤ 1 := by unfold optL; split <;> simp
theorem jnB_len : ∀ (L : List (List UInt8)) (m : Nat), (∀ p ∈ L, p.length ≤ m) → (jnB L).length ≤ L.length * (m + 2)
  | [], m, _ => by simp [jnB_nil]
  | [p], m, h => by rw [jnB_one]; have := h p (by simp); simp; omega
  | p :: q :: L, m, h => by
    have := jnB_len (q :: L) m (fun x hx => h x (by simp [hx]))
    have hp := h p (by simp)
    rw [jnB_cons]
    simp only [List.length_append, List.length_cons] at this ⊢
    have e : (L.length + 1 + 1) * (m + 2) = (L.length + 1) * (m + 2) + (m + 2) := by rw [Nat.add_mul (L.length + 1) 1, Nat.one_mul]
    omega
end Go.Av

/-! part Q74 -/
namespace Go.Av
open Go.Proofs

def CtlOk (c : Ctl) : Prop := c.1.length = 7 ∧ c.2.length = 4 ∧ ∀ i ∈ c.2, -9223372036854775808 ≤ i ∧ i ≤ 9223372036854775807
theorem numL_ne {n : List UInt8} {i : Int} {p : List UInt8} (h : p ∈ numL n i) : p = n ++ 61 :: dec i.toNat := (optL_le h).2
set_option maxHeartbeats 4000000 in
set_option maxRecDepth 100000 in
theorem rprint34 (c : Ctl) (hc : CtlOk c) : PureC Tryd.prog 34 [.agg false (ctlL c)] (.str (printC c)) := by
  obtain ⟨h7, h4, hi⟩ := hc
  obtain ⟨b0, b1, b2, b3, b4, b5, b6, i0, i1, i2, i3, rfl⟩ := ctl_ex h7 h4
  have z0 := hi i0 (by simp)
  have z1 := hi i1 (by simp)
  have z2 := hi i2 (by simp)
  have z3 := hi i3 (by simp)
  have e0 := dec_len 18 i0.toNat (by omega)
  have e1 := dec_len 18 i1.toNat (by omega)
  have e2 := dec_len 18 i2.toNat (by omega)
  have e3 := dec_len 18 i3.toNat (by omega)
  refine pure_of_aw (ys := [_]) [] [] [] mixed Tryd.func34 rfl (by kernel_rfl) (by kernel_rfl) (by simp [Tryd.ntmps34]) rfl ?_
  obtain ⟨R, hR⟩ : ∃ R, R = printC ([b0, b1, b2, b3, b4, b5, b6], [i0, i1, i2, i3]) := ⟨_, rfl⟩
  rw [← hR]
  unfold printC at hR
  rw [partsC_eq] at hR
  have st : ∀ (L : List (List UInt8)) (w : List UInt8) (b : Bool), (∀ p ∈ L, p ≠ [] ∧ p.length ≤ 40) → L.length ≤ 10 → w ≠ [] → w.length ≤ 40 →
      PureC Tryd.prog 73 [.str (jnB L), .str w, .bool b] (.str (jnB (L ++ optL b w))) ∧ (∀ p ∈ L ++ optL b w, p ≠ [] ∧ p.length ≤ 40) ∧ (L ++ optL b w).length ≤ L.length + 1 := by
    intro L w b h1 h2 h3 h5
    have hl := jnB_len L 40 (fun p hp => (h1 p hp).2)
    have := put73 (jnB L) w b (by omega) (by omega)
    rw [putB_join (fun p hp => (h1 p hp).1)] at this
    refine ⟨this, ?_, ?_⟩
    · intro p hp
      rcases List.mem_append.1 hp with hp | hp
      · exact h1 p hp
      · obtain ⟨_, rfl⟩ := optL_le hp; exact ⟨h3, h5⟩
    · have := optL_len b w; rw [List.length_append]; omega
  obtain ⟨p0, q0, r0⟩ := st [] nm0 b0 (by simp) (by simp) (by decide) (by decide)
  rw [List.nil_append] at p0 q0 r0
  obtain ⟨p1, q1, r1⟩ := st _ nm1 b1 q0 (by simp at r0 ⊢; omega) (by decide) (by decide)
  obtain ⟨p2, q2, r2⟩ := st _ nm2 b2 q1 (by simp at r0 r1 ⊢; omega) (by decide) (by decide)
  obtain ⟨p3, q3, r3⟩ := st _ nm3 b3 q2 (by simp at r0 r1 r2 ⊢; omega) (by decide) (by decide)
  obtain ⟨p4, q4, r4⟩ := st _ nm4 b4 q3 (by simp at r0 r1 r2 r3 ⊢; omega) (by decide) (by decide)
  obtain ⟨p5, q5, r5⟩ := st _ nm5 b5 q4 (by simp at r0 r1 r2 r3 r4 ⊢; omega) (by decide) (by decide)
  obtain ⟨p6, q6, r6⟩ := st _ nm6 b6 q5 (by simp at r0 r1 r2 r3 r4 r5 ⊢; omega) (by decide) (by decide)
  obtain ⟨p7, q7, r7⟩ := st _ (nm7 ++ 61 :: dec i0.toNat) (decide (0 ≤ i0)) q6 (by simp at r0 r1 r2 r3 r4 r5 r6 ⊢; omega) (by simp) (by simp [nm7]; omega)
  obtain ⟨p8, q8, r8⟩ := st _ (nm8 ++ 61 :: dec i1.toNat) (decide (0 ≤ i1)) q7 (by simp at r0 r1 r2 r3 r4 r5 r6 r7 ⊢; omega) (by simp) (by simp [nm8]; omega)
  obtain ⟨p9, q9, r9⟩ := st _ (nm9 ++ 61 :: dec i2.toNat) (decide (0 ≤ i2)) q8 (by simp at r0 r1 r2 r3 r4 r5 r6 r7 r8 ⊢; omega) (by simp) (by simp [nm9]; omega)
  obtain ⟨p10, _, _⟩ := st _ (nm10 ++ 61 :: dec i3.toNat) (decide (0 ≤ i3)) q9 (by simp at r0 r1 r2 r3 r4 r5 r6 r7 r8 r9 ⊢; omega) (by simp) (by simp [nm10]; omega)
  simp only [numL] at hR
  clear q0 q1 q2 q3 q4 q5 q6 q7 q8 q9 r0 r1 r2 r3 r4 r5 r6 r7 r8 r9 st
  have nl : jnB [] = [] := rfl
  rw [nl] at p0
  generalize hX0 : jnB (optL b0 nm0) = X0 at p0 p1
  generalize hX1 : jnB (optL b0 nm0 ++ optL b1 nm1) = X1 at p1 p2
  generalize hX2 : jnB (optL b0 nm0 ++ optL b1 nm1 ++ optL b2 nm2) = X2 at p2 p3
  generalize hX3 : jnB (optL b0 nm0 ++ optL b1 nm1 ++ optL b2 nm2 ++ optL b3 nm3) = X3 at p3 p4
  generalize hX4 : jnB (optL b0 nm0 ++ optL b1 nm1 ++ optL b2 nm2 ++ optL b3 nm3 ++ optL b4 nm4) = X4 at p4 p5
  generalize hX5 : jnB (optL b0 nm0 ++ optL b1 nm1 ++ optL b2 nm2 ++ optL b3 nm3 ++ optL b4 nm4 ++ optL b5 nm5) = X5 at p5 p6
  generalize hX6 : jnB (optL b0 nm0 ++ optL b1 nm1 ++ optL b2 nm2 ++ optL b3 nm3 ++ optL b4 nm4 ++ optL b5 nm5 ++ optL b6 nm6) = X6 at p6 p7
  generalize hX7 : jnB (optL b0 nm0 ++ optL b1 nm1 ++ optL b2 nm2 ++ optL b3 nm3 ++ optL b4 nm4 ++ optL b5 nm5 ++ optL b6 nm6 ++ optL (decide (0 ≤ i0)) (nm7 ++ 61 :: dec i0.toNat)) = X7 at p7 p8
  generalize hX8 : jnB (optL b0 nm0 ++ optL b1 nm1 ++ optL b2 nm2 ++ optL b3 nm3 ++ optL b4 nm4 ++ optL b5 nm5 ++ optL b6 nm6 ++ optL (decide (0 ≤ i0)) (nm7 ++ 61 :: dec i0.toNat) ++ optL (decide (0 ≤ i1)) (nm8 ++ 61 :: dec i1.toNat)) = X8 at p8 p9
  generalize hX9 : jnB (optL b0 nm0 ++ optL b1 nm1 ++ optL b2 nm2 ++ optL b3 nm3 ++ optL b4 nm4 ++ optL b5 nm5 ++ optL b6 nm6 ++ optL (decide (0 ≤ i0)) (nm7 ++ 61 :: dec i0.toNat) ++ optL (decide (0 ≤ i1)) (nm8 ++ 61 :: dec i1.toNat) ++ optL (decide (0 ≤ i2)) (nm9 ++ 61 :: dec i2.toNat)) = X9 at p9 p10
  generalize hX10 : jnB (optL b0 nm0 ++ optL b1 nm1 ++ optL b2 nm2 ++ optL b3 nm3 ++ optL b4 nm4 ++ optL b5 nm5 ++ optL b6 nm6 ++ optL (decide (0 ≤ i0)) (nm7 ++ 61 :: dec i0.toNat) ++ optL (decide (0 ≤ i1)) (nm8 ++ 61 :: dec i1.toNat) ++ optL (decide (0 ≤ i2)) (nm9 ++ 61 :: dec i2.toNat) ++ optL (decide (0 ≤ i3)) (nm10 ++ 61 :: dec i3.toNat)) = X10 at p10 hR
  simp only [nm0, nm1, nm2, nm3, nm4, nm5, nm6, nm7, nm8, nm9, nm10, List.cons_append, List.nil_append] at p0 p1 p2 p3 p4 p5 p6 p7 p8 p9 p10
  clear hX0 hX1 hX2 hX3 hX4 hX5 hX6 hX7 hX8 hX9 hX10
  subst hR
  simp [ctlL]
  refine pcall_of p0 rfl ?_
  simp
  refine pcall_of p1 rfl ?_
  simp
  refine pcall_of p2 rfl ?_
  simp
  refine pcall_of p3 rfl ?_
  simp
  refine pcall_of p4 rfl ?_
  simp
  refine pcall_of p5 rfl ?_
  simp
  refine pcall_of p6 rfl ?_
  simp
  refine call_of (rprint29 i0 z0.1 z0.2) ?_
  simp
  refine ⟨by omega, ?_⟩
  refine call_of p7 ?_
  simp
  refine call_of (rprint29 i1 z1.1 z1.2) ?_
  simp
  refine ⟨by omega, ?_⟩
  refine call_of p8 ?_
  simp
  refine call_of (rprint29 i2 z2.1 z2.2) ?_
  simp
  refine ⟨by omega, ?_⟩
  refine call_of p9 ?_
  simp
  refine call_of (rprint29 i3 z3.1 z3.2) ?_
  simp
  refine ⟨by omega, ?_⟩
  refine call_of p10 ?_
  simp [Tryd.results34]
end Go.Av

/-! part Q75 -/
namespace Go.Av
open Go.Proofs

set_option maxHeartbeats 1000000 in
theorem flag65p (c : Ctl) (h7 : c.1.length = 7) (h4 : c.2.length = 4) (k : Nat) (hk : k < 7) : PureC Tryd.prog 65 [.ref (.agg false (ctlL c)), .str (flagsL.getD k [])] (.ref (.bool (c.1.getD k false))) := by
  obtain ⟨b0, b1, b2, b3, b4, b5, b6, i0, i1, i2, i3, rfl⟩ := ctl_ex h7 h4
  refine pure_of_aw (ys := [_]) [] [] [] mixed Tryd.func65 rfl (by kernel_rfl) (by kernel_rfl) (by simp [Tryd.ntmps65]) rfl ?_
  match k, hk with
  | 0, _ => simp [flagsL, nm0, ctlL, Tryd.results65]
  | 1, _ => simp [flagsL, nm1, ctlL, Tryd.results65]
  | 2, _ => simp [flagsL, nm2, ctlL, Tryd.results65]
  | 3, _ => simp [flagsL, nm3, ctlL, Tryd.results65]
  | 4, _ => simp [flagsL, nm4, ctlL, Tryd.results65]
  | 5, _ => simp [flagsL, nm5, ctlL, Tryd.results65]
  | 6, _ => simp [flagsL, nm6, ctlL, Tryd.results65]
set_option maxHeartbeats 1000000 in
theorem count66p (c : Ctl) (h7 : c.1.length = 7) (h4 : c.2.length = 4) (k : Nat) (hk : k < 4) : PureC Tryd.prog 66 [.ref (.agg false (ctlL c)), .str (numsL.getD k [])] (.ref (.int (c.2.getD k 0))) := by
  obtain ⟨b0, b1, b2, b3, b4, b5, b6, i0, i1, i2, i3, rfl⟩ := ctl_ex h7 h4
  refine pure_of_aw (ys := [_]) [] [] [] mixed Tryd.func66 rfl (by kernel_rfl) (by kernel_rfl) (by simp [Tryd.ntmps66]) rfl ?_
  match k, hk with
  | 0, _ => simp [numsL, nm7, ctlL, Tryd.results66]
  | 1, _ => simp [numsL, nm8, ctlL, Tryd.results66]
  | 2, _ => simp [numsL, nm9, ctlL, Tryd.results66]
  | 3, _ => simp [numsL, nm10, ctlL, Tryd.results66]
theorem part_mem {c : Ctl} (h7 : c.1.length = 7) (h4 : c.2.length = 4) {p : List UInt8} (h : p ∈ partsC c) : p ∈ flagsL ∨ ∃ n ∈ numsL, ∃ i ∈ c.2, 0 ≤ i ∧ p = n ++ 61 :: dec i.toNat := by
  obtain ⟨b0, b1, b2, b3, b4, b5, b6, i0, i1, i2, i3, rfl⟩ := ctl_ex h7 h4
  rw [partsC_eq] at h
  simp only [List.mem_append] at h
  have f : ∀ {b : Bool} {n : List UInt8}, n ∈ flagsL → p ∈ optL b n → p ∈ flagsL := fun hn hp => by rw [(optL_le hp).2]; exact hn
  have g : ∀ {i : Int} {n : List UInt8}, n ∈ numsL → i ∈ [i0, i1, i2, i3] → p ∈ numL n i → ∃ n ∈ numsL, ∃ i ∈ [i0, i1, i2, i3], 0 ≤ i ∧ p = n ++ 61 :: dec i.toNat := fun hn hi hp => by
    obtain ⟨a, b⟩ := optL_le hp
    exact ⟨_, hn, _, hi, by simpa using a, b⟩
  rcases h with (((((((((h | h) | h) | h) | h) | h) | h) | h) | h) | h) | h
  · exact .inl (f (by simp [flagsL]) h)
  · exact .inl (f (by simp [flagsL]) h)
  · exact .inl (f (by simp [flagsL]) h)
  · exact .inl (f (by simp [flagsL]) h)
  · exact .inl (f (by simp [flagsL]) h)
  · exact .inl (f (by simp [flagsL]) h)
  · exact .inl (f (by simp [flagsL]) h)
  · exact .inr (g (by simp [numsL]) (by simp) h)
  · exact .inr (g (by simp [numsL]) (by simp) h)
  · exact .inr (g (by simp [numsL]) (by simp) h)
  · exact .inr (g (by simp [numsL]) (by simp) h)
theorem part_len {c : Ctl} (hc : CtlOk c) {p : List UInt8} (h : p ∈ partsC c) : p.length ≤ 40 := by
  obtain ⟨h7, h4, hi⟩ := hc
  rcases part_mem h7 h4 h with h | ⟨n, hn, i, hm, h0, rfl⟩
  · have : ∀ p ∈ flagsL, p.length ≤ 40 := by decide
    exact this p h
  · have e : ∀ p ∈ numsL, p.length ≤ 10 := by decide
    have := e n hn
    have hb := hi i hm
    have := dec_len 18 i.toNat (by omega)
    simp; omega
set_option maxHeartbeats 4000000 in
set_option maxRecDepth 100000 in
theorem print33 (c : Ctl) (hc : CtlOk c) : PureC Tryd.prog 33 [.agg false (ctlL c)] (.str (printC c)) := by
  obtain ⟨h7, h4, hi⟩ := hc
  have hf := flag65p c h7 h4
  have hn := count66p c h7 h4
  refine pure_of_aw (ys := [_]) [] [] [] mixed Tryd.func33 rfl (by kernel_rfl) (by kernel_rfl) (by simp [Tryd.ntmps33]) rfl ?_
  simp
  refine aw_loop (fun y : Nat × List (List UInt8) => y.1 ≤ 7 ∧ fparts c.1 flagsL = y.2 ++ fparts (c.1.drop y.1) (flagsL.drop y.1)) (fun y => [(1, .p (.ref (.agg false (ctlL c)))), (3, .own 0 (y.2.map PC.str)), (9, .p (.sl (flagsL.map PC.str))), (10, .p (.int 7)), (11, .p (.int y.1))])
    (fun y => ⟨[], [(0, 9, 1)], 1⟩) (fun y => 7 - y.1) (0, []) ⟨by simp, by simp⟩ _ (le_own 3 9 1 [] (.inr ⟨rfl, by simp⟩)) (leN_id (by simp [flagsL, nm0, nm1, nm2, nm3, nm4, nm5, nm6])) ?_
  rintro ⟨k, out⟩ ⟨g1, g2⟩
  simp only at g1 g2
  have hfl : flagsL.length = 7 := rfl
  by_cases ck : k < 7
  · have ck2 : (k : Int) < 7 := by omega
    have ckl : k < flagsL.length := Nat.lt_of_lt_of_eq ck hfl.symm
    have e0 : flagsL[k]? = some flagsL[k] := List.getElem?_eq_getElem ckl
    have hk := hf k ck
    simp [List.getD, e0, h7, ck] at hk
    rw [List.drop_eq_getElem_cons (by omega), List.drop_eq_getElem_cons ckl] at g2
    have fst : ∀ (b : Bool) (bs : List Bool) (n : List UInt8) (ns : List (List UInt8)), fparts (b :: bs) (n :: ns) = optL b n ++ fparts bs ns := fun _ _ _ _ => by simp [fparts]
    rw [fst, ← List.append_assoc] at g2
    generalize c.1[k] = b at *
    have hol : out.length ≤ 7 := by
      have := congrArg List.length g2
      have e : (fparts c.1 flagsL).length ≤ 7 := by
        obtain ⟨b0, b1, b2, b3, b4, b5, b6, i0, i1, i2, i3, rfl⟩ := ctl_ex h7 h4
        have := optL_len b0 nm0
        have := optL_len b1 nm1
        have := optL_len b2 nm2
        have := optL_len b3 nm3
        have := optL_len b4 nm4
        have := optL_len b5 nm5
        have := optL_len b6 nm6
        simp [fparts, flagsL]; omega
      simp only [List.length_append] at this
      omega
    simp [ck, ck2, e0, hfl]
    refine pcall_of hk (by simp) ?_
    cases b with
    | false =>
      simp
      refine ⟨k + 1, out, ⟨by omega, by simpa [optL] using g2⟩, by omega, leN_id ?_⟩
      simp [wrap64_id (n := (k : Int) + 1) (by omega) (by omega)]
    | true =>
      simp
      refine ⟨by omega, by omega, k + 1, out ++ [flagsL[k]], ⟨by omega, by simpa [optL] using g2⟩, by omega, leN_of [(0, 1)] ?_⟩
      simp [wrap64_id (n := (k : Int) + 1) (by omega) (by omega)]
  obtain rfl : k = 7 := by omega
  rw [List.drop_of_length_le (by omega)] at g2
  have g3 : out = fparts c.1 flagsL := by rw [g2]; simp [fparts]
  subst g3
  simp
  have hfl7 : (fparts c.1 flagsL).length ≤ 7 := by
    obtain ⟨b0, b1, b2, b3, b4, b5, b6, i0, i1, i2, i3, rfl⟩ := ctl_ex h7 h4
    have := optL_len b0 nm0
    have := optL_len b1 nm1
    have := optL_len b2 nm2
    have := optL_len b3 nm3
    have := optL_len b4 nm4
    have := optL_len b5 nm5
    have := optL_len b6 nm6
    simp [fparts, flagsL]; omega
  have hnl : (nparts c.2 numsL).length ≤ 4 := by
    obtain ⟨b0, b1, b2, b3, b4, b5, b6, i0, i1, i2, i3, rfl⟩ := ctl_ex h7 h4
    have := optL_len (decide (0 ≤ i0)) (nm7 ++ 61 :: dec i0.toNat)
    have := optL_len (decide (0 ≤ i1)) (nm8 ++ 61 :: dec i1.toNat)
    have := optL_len (decide (0 ≤ i2)) (nm9 ++ 61 :: dec i2.toNat)
    have := optL_len (decide (0 ≤ i3)) (nm10 ++ 61 :: dec i3.toNat)
    simp only [nparts, numsL, List.zipWith_cons_cons, List.zipWith_nil_left, List.flatten_cons, List.flatten_nil, List.length_append, List.length_nil, numL]; omega
  obtain ⟨F, hF⟩ : ∃ F, F = fparts c.1 flagsL := ⟨_, rfl⟩
  obtain ⟨N, hN⟩ : ∃ N, N = nparts c.2 numsL := ⟨_, rfl⟩
  have hP : printC c = jnB (F ++ N) := by rw [hF, hN]; rfl
  rw [hP, ← hF]
  rw [← hF] at hfl7
  rw [← hN] at hnl
  have hsz : numsL.length = 4 := rfl
  refine aw_loop (fun y : Nat × List (List UInt8) => y.1 ≤ 4 ∧ N = y.2 ++ nparts (c.2.drop y.1) (numsL.drop y.1)) (fun y => [(1, .p (.ref (.agg false (ctlL c)))), (3, .own 0 ((F ++ y.2).map PC.str)), (24, .p (.sl (numsL.map PC.str))), (25, .p (.int 4)), (26, .p (.int y.1))])
    (fun y => ⟨[], [(0, 9, 1)], 1⟩) (fun y => 4 - y.1) (0, []) ⟨by simp, by simp [hN]⟩ _ (AS.le_refl _ _) (leN_id (by simp [numsL, nm7, nm8, nm9, nm10])) ?_
  rintro ⟨k, out⟩ ⟨g1, g2⟩
  simp only at g1 g2
  by_cases ck : k < 4
  · have ck2 : (k : Int) < 4 := by omega
    have ckl : k < numsL.length := Nat.lt_of_lt_of_eq ck hsz.symm
    have e0 : numsL[k]? = some numsL[k] := List.getElem?_eq_getElem ckl
    have hk := hn k ck
    have hib := hi c.2[k] (List.getElem_mem (by omega))
    simp [List.getD, e0, h4, ck] at hk
    rw [List.drop_eq_getElem_cons (by omega), List.drop_eq_getElem_cons ckl] at g2
    have fst : ∀ (i : Int) (is : List Int) (n : List UInt8) (ns : List (List UInt8)), nparts (i :: is) (n :: ns) = numL n i ++ nparts is ns := fun _ _ _ _ => by simp [nparts]
    rw [fst, ← List.append_assoc] at g2
    generalize c.2[k] = i at *
    have hol : out.length ≤ 4 := by
      have := congrArg List.length g2
      simp only [List.length_append] at this
      omega
    have hkl : numsL[k].length ≤ 10 := by
      have : ∀ n ∈ numsL, n.length ≤ 10 := by decide
      exact this _ (List.getElem_mem ckl)
    simp [ck, ck2, e0, hsz]
    refine pcall_of hk (by simp) ?_
    by_cases ci : 0 ≤ i
    case neg =>
      have d : decide (0 ≤ i) = false := by simpa using ci
      simp [ci]
      refine ⟨k + 1, out, ⟨by omega, by simpa [numL, optL, d] using g2⟩, by omega, leN_id ?_⟩
      simp [wrap64_id (n := (k : Int) + 1) (by omega) (by omega)]
    · have hdl := dec_len 18 i.toNat (by omega)
      have d : decide (0 ≤ i) = true := by simpa using ci
      simp [ci]
      refine ⟨by omega, ?_⟩
      refine pcall_of (print71 i hib.1 hib.2) (by simp) ?_
      simp
      refine ⟨by omega, by rintro x (⟨a, _, rfl⟩ | ⟨a, _, rfl⟩) <;> rfl, by omega, by omega, k + 1, out ++ [numsL[k] ++ 61 :: dec i.toNat], ⟨by omega, by simpa [numL, optL, d] using g2⟩, by omega, leN_of [(0, 1)] ?_⟩
      simp [wrap64_id (n := (k : Int) + 1) (by omega) (by omega)]
  obtain rfl : k = 4 := by omega
  rw [List.drop_of_length_le (by omega)] at g2
  have g3 : N = out := by rw [g2]; simp [nparts]
  subst g3
  have hFl : ∀ p ∈ F ++ N, p.length ≤ 40 := by
    rw [hF, hN]
    intro p hp
    exact part_len ⟨h7, h4, hi⟩ hp
  have hjl := jnB_len (F ++ N) 40 hFl
  have hj := join72 (F ++ N) sepB (by simp; omega) (by
    have : Lib.join (F ++ N) sepB = jnB (F ++ N) := rfl
    rw [this]
    rw [List.length_append] at hjl
    omega)
  simp [hsz]
  refine pcall_of hj (by simp [sepB]) ?_
  simp [Tryd.results33, jnB]
end Go.Av

/-! part Q76 -/
namespace Go.Av
open Go.Proofs

def clampI (i : Int) : Int := if i < 0 then -1 else if i ≤ 2147483647 then i else 2147483647
def goodP (p : List UInt8) : Prop := p ≠ [] ∧ ∀ c ∈ p, c ≠ 34 ∧ c ≠ 92 ∧ c ≠ 44 ∧ blO c = false
def sps (k : Nat) : List UInt8 := List.replicate k 32
theorem pieceB_sp (k : Nat) (p : List UInt8) : pieceB (sps k ++ p) = pieceB p := by
  induction k with
  | zero => rfl
  | succ k ih =>
    have e : sps (k + 1) ++ p = 32 :: (sps k ++ p) := rfl
    rw [e, ← ih]
    unfold pieceB
    rw [← trim_comm (32 :: (sps k ++ p)), show trimL (32 :: (sps k ++ p)) = trimL (sps k ++ p) from rfl, trim_comm]
theorem pieceB_good {p : List UInt8} (h : goodP p) : pieceB p = [p] :=
  pieceB_id h.1 (fun c hc => (h.2 c (List.mem_of_head? hc)).2.2.2) (fun c hc => (h.2 c (List.mem_of_getLast? hc)).2.2.2)
theorem sp_chars (k : Nat) (p : List UInt8) (h : ∀ c ∈ p, c ≠ 34 ∧ c ≠ 92 ∧ c ≠ 44 ∧ blO c = false) : ∀ c ∈ sps k ++ p, c ≠ 34 ∧ c ≠ 92 ∧ (c ≠ 44 ∨ false = true) := by
  intro c hc
  rcases List.mem_append.1 hc with hc | hc
  · have : c = 32 := by simpa [sps] using (List.eq_of_mem_replicate hc)
    subst this; exact ⟨by decide, by decide, .inl (by decide)⟩
  · have := h c hc; exact ⟨this.1, this.2.1, .inl this.2.2.1⟩
theorem spl_sp (k : Nat) (p : List UInt8) (h : ∀ c ∈ p, c ≠ 34 ∧ c ≠ 92 ∧ c ≠ 44 ∧ blO c = false) : spl1 (sps k ++ p) = pieceB p := by
  have e := comB_app false (sps k ++ p) [] (sp_chars k p h)
  rw [List.append_nil, comB_nil, Nat.add_zero] at e
  rw [spl1_one e, pieceB_sp]
theorem spl_sp_cm (k : Nat) (p r : List UInt8) (h : ∀ c ∈ p, c ≠ 34 ∧ c ≠ 92 ∧ c ≠ 44 ∧ blO c = false) : spl1 (sps k ++ p ++ 44 :: r) = pieceB p ++ spl1 r := by
  have e := comB_app false (sps k ++ p) (44 :: r) (sp_chars k p h)
  rw [comB_cm, Nat.add_zero] at e
  rw [spl1_cm e, pieceB_sp]
theorem spl_join : ∀ (L : List (List UInt8)) (k : Nat), (∀ p ∈ L, goodP p) → spl1 (sps k ++ jnB L) = L
  | [], k, _ => by rw [jnB_nil, spl_sp k [] (by simp), pieceB_nil]
  | [p], k, h => by rw [jnB_one, spl_sp k p (h p (by simp)).2, pieceB_good (h p (by simp))]
  | p :: q :: L, k, h => by
    rw [jnB_cons, ← List.append_assoc, spl_sp_cm k p _ (h p (by simp)).2, pieceB_good (h p (by simp))]
    have := spl_join (q :: L) 1 (fun x hx => h x (by simp [hx]))
    have e : sps 1 ++ jnB (q :: L) = 32 :: jnB (q :: L) := rfl
    rw [e] at this
    rw [this]; rfl
theorem spl_join_cm : ∀ (L : List (List UInt8)) (k : Nat) (r : List UInt8), (∀ p ∈ L, goodP p) → spl1 (sps k ++ jnB L ++ 44 :: r) = L ++ spl1 r
  | [], k, r, _ => by rw [jnB_nil, spl_sp_cm k [] r (by simp), pieceB_nil]
  | [p], k, r, h => by rw [jnB_one, spl_sp_cm k p r (h p (by simp)).2, pieceB_good (h p (by simp))]
  | p :: q :: L, k, r, h => by
    have e0 : sps k ++ (p ++ 44 :: 32 :: jnB (q :: L)) ++ 44 :: r = sps k ++ p ++ 44 :: (32 :: jnB (q :: L) ++ 44 :: r) := by simp
    rw [jnB_cons, e0, spl_sp_cm k p _ (h p (by simp)).2, pieceB_good (h p (by simp))]
    have := spl_join_cm (q :: L) 1 r (fun x hx => h x (by simp [hx]))
    have e : sps 1 ++ jnB (q :: L) ++ 44 :: r = 32 :: jnB (q :: L) ++ 44 :: r := rfl
    rw [e] at this
    rw [this]; rfl
theorem numD_dec' (n : Nat) (wo : Int) : numD (dec n) true wo = if (n : Int) ≤ 2147483647 then (n : Int) else 2147483647 := numD_dec 0 n wo
theorem fold_opt (b : Bool) (p : List UInt8) (c : Ctl) : (optL b p).foldl stepC c = if b = true then stepC c p else c := by
  unfold optL; split <;> rfl
theorem stepN_0 (v : Int) (x0 x1 x2 x3 x4 x5 x6 : Bool) (y0 y1 y2 y3 : Int) : stepN nm0 v ([x0, x1, x2, x3, x4, x5, x6], [y0, y1, y2, y3]) = ([true, x1, x2, x3, x4, x5, x6], [y0, y1, y2, y3]) := by
  rw [stepN_eq]; simp [nm0, nm1, nm2, nm3, nm4, nm5, nm6, nm7, nm8, nm9, nm10]
theorem stepN_1 (v : Int) (x0 x1 x2 x3 x4 x5 x6 : Bool) (y0 y1 y2 y3 : Int) : stepN nm1 v ([x0, x1, x2, x3, x4, x5, x6], [y0, y1, y2, y3]) = ([x0, true, x2, x3, x4, x5, x6], [y0, y1, y2, y3]) := by
  rw [stepN_eq]; simp [nm0, nm1, nm2, nm3, nm4, nm5, nm6, nm7, nm8, nm9, nm10]
theorem stepN_2 (v : Int) (x0 x1 x2 x3 x4 x5 x6 : Bool) (y0 y1 y2 y3 : Int) : stepN nm2 v ([x0, x1, x2, x3, x4, x5, x6], [y0, y1, y2, y3]) = ([x0, x1, true, x3, x4, x5, x6], [y0, y1, y2, y3]) := by
  rw [stepN_eq]; simp [nm0, nm1, nm2, nm3, nm4, nm5, nm6, nm7, nm8, nm9, nm10]
theorem stepN_3 (v : Int) (x0 x1 x2 x3 x4 x5 x6 : Bool) (y0 y1 y2 y3 : Int) : stepN nm3 v ([x0, x1, x2, x3, x4, x5, x6], [y0, y1, y2, y3]) = ([x0, x1, x2, true, x4, x5, x6], [y0, y1, y2, y3]) := by
  rw [stepN_eq]; simp [nm0, nm1, nm2, nm3, nm4, nm5, nm6, nm7, nm8, nm9, nm10]
theorem stepN_4 (v : Int) (x0 x1 x2 x3 x4 x5 x6 : Bool) (y0 y1 y2 y3 : Int) : stepN nm4 v ([x0, x1, x2, x3, x4, x5, x6], [y0, y1, y2, y3]) = ([x0, x1, x2, x3, true, x5, x6], [y0, y1, y2, y3]) := by
  rw [stepN_eq]; simp [nm0, nm1, nm2, nm3, nm4, nm5, nm6, nm7, nm8, nm9, nm10]
theorem stepN_5 (v : Int) (x0 x1 x2 x3 x4 x5 x6 : Bool) (y0 y1 y2 y3 : Int) : stepN nm5 v ([x0, x1, x2, x3, x4, x5, x6], [y0, y1, y2, y3]) = ([x0, x1, x2, x3, x4, true, x6], [y0, y1, y2, y3]) := by
  rw [stepN_eq]; simp [nm0, nm1, nm2, nm3, nm4, nm5, nm6, nm7, nm8, nm9, nm10]
theorem stepN_6 (v : Int) (x0 x1 x2 x3 x4 x5 x6 : Bool) (y0 y1 y2 y3 : Int) : stepN nm6 v ([x0, x1, x2, x3, x4, x5, x6], [y0, y1, y2, y3]) = ([x0, x1, x2, x3, x4, x5, true], [y0, y1, y2, y3]) := by
  rw [stepN_eq]; simp [nm0, nm1, nm2, nm3, nm4, nm5, nm6, nm7, nm8, nm9, nm10]
theorem stepN_7 (v : Int) (x0 x1 x2 x3 x4 x5 x6 : Bool) (y0 y1 y2 y3 : Int) : stepN nm7 v ([x0, x1, x2, x3, x4, x5, x6], [y0, y1, y2, y3]) = ([x0, x1, x2, x3, x4, x5, x6], [if y0 < 0 then v else y0, y1, y2, y3]) := by
  rw [stepN_eq]; simp [nm0, nm1, nm2, nm3, nm4, nm5, nm6, nm7, nm8, nm9, nm10]
theorem stepN_8 (v : Int) (x0 x1 x2 x3 x4 x5 x6 : Bool) (y0 y1 y2 y3 : Int) : stepN nm8 v ([x0, x1, x2, x3, x4, x5, x6], [y0, y1, y2, y3]) = ([x0, x1, x2, x3, x4, x5, x6], [y0, if y1 < 0 then v else y1, y2, y3]) := by
  rw [stepN_eq]; simp [nm0, nm1, nm2, nm3, nm4, nm5, nm6, nm7, nm8, nm9, nm10]
theorem stepN_9 (v : Int) (x0 x1 x2 x3 x4 x5 x6 : Bool) (y0 y1 y2 y3 : Int) : stepN nm9 v ([x0, x1, x2, x3, x4, x5, x6], [y0, y1, y2, y3]) = ([x0, x1, x2, x3, x4, x5, x6], [y0, y1, if y2 < 0 then v else y2, y3]) := by
  rw [stepN_eq]; simp [nm0, nm1, nm2, nm3, nm4, nm5, nm6, nm7, nm8, nm9, nm10]
theorem stepN_10 (v : Int) (x0 x1 x2 x3 x4 x5 x6 : Bool) (y0 y1 y2 y3 : Int) : stepN nm10 v ([x0, x1, x2, x3, x4, x5, x6], [y0, y1, y2, y3]) = ([x0, x1, x2, x3, x4, x5, x6], [y0, y1, y2, if y3 < 0 then v else y3]) := by
  rw [stepN_eq]; simp [nm0, nm1, nm2, nm3, nm4, nm5, nm6, nm7, nm8, nm9, nm10]
theorem fold_parts (b0 b1 b2 b3 b4 b5 b6 : Bool) (i0 i1 i2 i3 : Int) (p0 p1 p2 p3 p4 p5 p6 q0 q1 q2 q3 : List UInt8) (h0 : (readB p0).1 = nm0 ∧ (readB p0).2.2.2 = true) (h1 : (readB p1).1 = nm1 ∧ (readB p1).2.2.2 = true) (h2 : (readB p2).1 = nm2 ∧ (readB p2).2.2.2 = true) (h3 : (readB p3).1 = nm3 ∧ (readB p3).2.2.2 = true) (h4 : (readB p4).1 = nm4 ∧ (readB p4).2.2.2 = true) (h5 : (readB p5).1 = nm5 ∧ (readB p5).2.2.2 = true) (h6 : (readB p6).1 = nm6 ∧ (readB p6).2.2.2 = true) (g0 : readB q0 = (nm7, dec i0.toNat, true, true)) (g1 : readB q1 = (nm8, dec i1.toNat, true, true)) (g2 : readB q2 = (nm9, dec i2.toNat, true, true)) (g3 : readB q3 = (nm10, dec i3.toNat, true, true)) :
    (optL b0 p0 ++ optL b1 p1 ++ optL b2 p2 ++ optL b3 p3 ++ optL b4 p4 ++ optL b5 p5 ++ optL b6 p6 ++ optL (decide (0 ≤ i0)) q0 ++ optL (decide (0 ≤ i1)) q1 ++ optL (decide (0 ≤ i2)) q2 ++ optL (decide (0 ≤ i3)) q3).foldl stepC ctl0 = ([b0, b1, b2, b3, b4, b5, b6], [clampI i0, clampI i1, clampI i2, clampI i3]) := by
  simp only [List.foldl_append, fold_opt, ctl0_eq]
  have e0 : (if b0 = true then stepC ([false, false, false, false, false, false, false], [-1, -1, -1, -1]) p0 else ([false, false, false, false, false, false, false], [-1, -1, -1, -1])) = ([b0, false, false, false, false, false, false], [-1, -1, -1, -1]) := by
    cases b0 with
    | false => simp
    | true => rw [if_pos rfl, stepC_eq, h0.2, if_neg (by simp), h0.1, stepN_0]
  rw [e0]
  have e1 : (if b1 = true then stepC ([b0, false, false, false, false, false, false], [-1, -1, -1, -1]) p1 else ([b0, false, false, false, false, false, false], [-1, -1, -1, -1])) = ([b0, b1, false, false, false, false, false], [-1, -1, -1, -1]) := by
    cases b1 with
    | false => simp
    | true => rw [if_pos rfl, stepC_eq, h1.2, if_neg (by simp), h1.1, stepN_1]
  rw [e1]
  have e2 : (if b2 = true then stepC ([b0, b1, false, false, false, false, false], [-1, -1, -1, -1]) p2 else ([b0, b1, false, false, false, false, false], [-1, -1, -1, -1])) = ([b0, b1, b2, false, false, false, false], [-1, -1, -1, -1]) := by
    cases b2 with
    | false => simp
    | true => rw [if_pos rfl, stepC_eq, h2.2, if_neg (by simp), h2.1, stepN_2]
  rw [e2]
  have e3 : (if b3 = true then stepC ([b0, b1, b2, false, false, false, false], [-1, -1, -1, -1]) p3 else ([b0, b1, b2, false, false, false, false], [-1, -1, -1, -1])) = ([b0, b1, b2, b3, false, false, false], [-1, -1, -1, -1]) := by
    cases b3 with
    | false => simp
    | true => rw [if_pos rfl, stepC_eq, h3.2, if_neg (by simp), h3.1, stepN_3]
  rw [e3]
  have e4 : (if b4 = true then stepC ([b0, b1, b2, b3, false, false, false], [-1, -1, -1, -1]) p4 else ([b0, b1, b2, b3, false, false, false], [-1, -1, -1, -1])) = ([b0, b1, b2, b3, b4, false, false], [-1, -1, -1, -1]) := by
    cases b4 with
    | false => simp
    | true => rw [if_pos rfl, stepC_eq, h4.2, if_neg (by simp), h4.1, stepN_4]
  rw [e4]
  have e5 : (if b5 = true then stepC ([b0, b1, b2, b3, b4, false, false], [-1, -1, -1, -1]) p5 else ([b0, b1, b2, b3, b4, false, false], [-1, -1, -1, -1])) = ([b0, b1, b2, b3, b4, b5, false], [-1, -1, -1, -1]) := by
    cases b5 with
    | false => simp
    | true => rw [if_pos rfl, stepC_eq, h5.2, if_neg (by simp), h5.1, stepN_5]
  rw [e5]
  have e6 : (if b6 = true then stepC ([b0, b1, b2, b3, b4, b5, false], [-1, -1, -1, -1]) p6 else ([b0, b1, b2, b3, b4, b5, false], [-1, -1, -1, -1])) = ([b0, b1, b2, b3, b4, b5, b6], [-1, -1, -1, -1]) := by
    cases b6 with
    | false => simp
    | true => rw [if_pos rfl, stepC_eq, h6.2, if_neg (by simp), h6.1, stepN_6]
  rw [e6]
  have f0 : (if decide (0 ≤ i0) = true then stepC ([b0, b1, b2, b3, b4, b5, b6], [-1, -1, -1, -1]) q0 else ([b0, b1, b2, b3, b4, b5, b6], [-1, -1, -1, -1])) = ([b0, b1, b2, b3, b4, b5, b6], [clampI i0, -1, -1, -1]) := by
    by_cases c : 0 ≤ i0
    · rw [if_pos (by simpa using c), stepC_eq, g0, if_neg (by simp)]
      simp only
      rw [numD_dec', stepN_7, if_pos (by decide)]
      have : (if ((i0.toNat : Nat) : Int) ≤ 2147483647 then ((i0.toNat : Nat) : Int) else 2147483647) = clampI i0 := by
        rw [Int.toNat_of_nonneg c]
        unfold clampI
        rw [if_neg (show ¬ i0 < 0 by omega)]
      rw [this]
    · have : clampI i0 = -1 := by unfold clampI; rw [if_pos (by omega)]
      rw [if_neg (by simpa using c), this]
  rw [f0]
  have f1 : (if decide (0 ≤ i1) = true then stepC ([b0, b1, b2, b3, b4, b5, b6], [clampI i0, -1, -1, -1]) q1 else ([b0, b1, b2, b3, b4, b5, b6], [clampI i0, -1, -1, -1])) = ([b0, b1, b2, b3, b4, b5, b6], [clampI i0, clampI i1, -1, -1]) := by
    by_cases c : 0 ≤ i1
    · rw [if_pos (by simpa using c), stepC_eq, g1, if_neg (by simp)]
      simp only
      rw [numD_dec', stepN_8, if_pos (by decide)]
      have : (if ((i1.toNat : Nat) : Int) ≤ 2147483647 then ((i1.toNat : Nat) : Int) else 2147483647) = clampI i1 := by
        rw [Int.toNat_of_nonneg c]
        unfold clampI
        rw [if_neg (show ¬ i1 < 0 by omega)]
      rw [this]
    · have : clampI i1 = -1 := by unfold clampI; rw [if_pos (by omega)]
      rw [if_neg (by simpa using c), this]
  rw [f1]
  have f2 : (if decide (0 ≤ i2) = true then stepC ([b0, b1, b2, b3, b4, b5, b6], [clampI i0, clampI i1, -1, -1]) q2 else ([b0, b1, b2, b3, b4, b5, b6], [clampI i0, clampI i1, -1, -1])) = ([b0, b1, b2, b3, b4, b5, b6], [clampI i0, clampI i1, clampI i2, -1]) := by
    by_cases c : 0 ≤ i2
    · rw [if_pos (by simpa using c), stepC_eq, g2, if_neg (by simp)]
      simp only
      rw [numD_dec', stepN_9, if_pos (by decide)]
      have : (if ((i2.toNat : Nat) : Int) ≤ 2147483647 then ((i2.toNat : Nat) : Int) else 2147483647) = clampI i2 := by
        rw [Int.toNat_of_nonneg c]
        unfold clampI
        rw [if_neg (show ¬ i2 < 0 by omega)]
      rw [this]
    · have : clampI i2 = -1 := by unfold clampI; rw [if_pos (by omega)]
      rw [if_neg (by simpa using c), this]
  rw [f2]
  have f3 : (if decide (0 ≤ i3) = true then stepC ([b0, b1, b2, b3, b4, b5, b6], [clampI i0, clampI i1, clampI i2, -1]) q3 else ([b0, b1, b2, b3, b4, b5, b6], [clampI i0, clampI i1, clampI i2, -1])) = ([b0, b1, b2, b3, b4, b5, b6], [clampI i0, clampI i1, clampI i2, clampI i3]) := by
    by_cases c : 0 ≤ i3
    · rw [if_pos (by simpa using c), stepC_eq, g3, if_neg (by simp)]
      simp only
      rw [numD_dec', stepN_10, if_pos (by decide)]
      have : (if ((i3.toNat : Nat) : Int) ≤ 2147483647 then ((i3.toNat : Nat) : Int) else 2147483647) = clampI i3 := by
        rw [Int.toNat_of_nonneg c]
        unfold clampI
        rw [if_neg (show ¬ i3 < 0 by omega)]
      rw [this]
    · have : clampI i3 = -1 := by unfold clampI; rw [if_pos (by omega)]
      rw [if_neg (by simpa using c), this]
  rw [f3]
end Go.Av

/-! part Q77 -/
namespace Go.Av
open Go.Proofs

theorem good_tk {p : List UInt8} (h : tkB p = true) : goodP p :=
  ⟨(tk_all h).1, fun c hc => by have := tok_plain ((tk_all h).2 c hc); exact ⟨this.1, this.2.1, this.2.2.1, this.2.2.2.2.1⟩⟩
theorem good_arg {n a : List UInt8} (h : tkB n = true) (ha : tkB a = true) : goodP (n ++ 61 :: a) :=
  ⟨by simp, fun c hc => by
    rcases List.mem_append.1 hc with hc | hc
    · exact (good_tk h).2 c hc
    · rcases List.mem_cons.1 hc with rfl | hc
      · exact ⟨by decide, by decide, by decide, by decide⟩
      · exact (good_tk ha).2 c hc⟩
theorem dec_tk (n : Nat) : tkB (dec n) = true := zer_tk 0 n
theorem tk_flags : ∀ p ∈ flagsL, tkB p = true := by decide
theorem tk_nums : ∀ p ∈ numsL, tkB p = true := by decide
theorem part_good {c : Ctl} (h7 : c.1.length = 7) (h4 : c.2.length = 4) {p : List UInt8} (h : p ∈ partsC c) : goodP p := by
  rcases part_mem h7 h4 h with h | ⟨n, hn, i, hm, h0, rfl⟩
  · exact good_tk (tk_flags p h)
  · exact good_arg (tk_nums n hn) (dec_tk _)
theorem fold_partsC {c : Ctl} (h7 : c.1.length = 7) (h4 : c.2.length = 4) : (partsC c).foldl stepC ctl0 = (c.1, c.2.map clampI) := by
  obtain ⟨b0, b1, b2, b3, b4, b5, b6, i0, i1, i2, i3, rfl⟩ := ctl_ex h7 h4
  rw [partsC_eq]
  have f : ∀ n, tkB n = true → lowB n = n → (readB n).1 = n ∧ (readB n).2.2.2 = true := fun n h1 h2 => by rw [readB_name h1]; exact ⟨h2, rfl⟩
  have g : ∀ (n : List UInt8) (i : Int), tkB n = true → lowB n = n → readB (n ++ 61 :: dec i.toNat) = (n, dec i.toNat, true, true) := fun n i h1 h2 => by rw [readB_arg h1 (dec_tk _), h2]
  exact fold_parts b0 b1 b2 b3 b4 b5 b6 i0 i1 i2 i3 _ _ _ _ _ _ _ _ _ _ _ (f _ rfl rfl) (f _ rfl rfl) (f _ rfl rfl) (f _ rfl rfl) (f _ rfl rfl) (f _ rfl rfl) (f _ rfl rfl) (g _ _ rfl rfl) (g _ _ rfl rfl) (g _ _ rfl rfl) (g _ _ rfl rfl)
theorem parse_print {c : Ctl} (h7 : c.1.length = 7) (h4 : c.2.length = 4) : parseB [printC c] = (c.1, c.2.map clampI) := by
  unfold parseB splitB
  simp only [List.flatMap_cons, List.flatMap_nil, List.append_nil]
  have := spl_join (partsC c) 0 (fun p hp => part_good h7 h4 hp)
  rw [show sps 0 ++ jnB (partsC c) = printC c from rfl] at this
  rw [this, fold_partsC h7 h4]
theorem printC_len {c : Ctl} (hc : CtlOk c) : (printC c).length ≤ 500 := by
  have := jnB_len (partsC c) 40 (fun p hp => part_len hc hp)
  have e : (partsC c).length ≤ 11 := by
    obtain ⟨b0, b1, b2, b3, b4, b5, b6, i0, i1, i2, i3, rfl⟩ := ctl_ex hc.1 hc.2.1
    rw [partsC_eq]
    have := optL_len b0 nm0
    have := optL_len b1 nm1
    have := optL_len b2 nm2
    have := optL_len b3 nm3
    have := optL_len b4 nm4
    have := optL_len b5 nm5
    have := optL_len b6 nm6
    have := optL_len (decide (0 ≤ i0)) (nm7 ++ 61 :: dec i0.toNat)
    have := optL_len (decide (0 ≤ i1)) (nm8 ++ 61 :: dec i1.toNat)
    have := optL_len (decide (0 ≤ i2)) (nm9 ++ 61 :: dec i2.toNat)
    have := optL_len (decide (0 ≤ i3)) (nm10 ++ 61 :: dec i3.toNat)
    simp only [List.length_append, numL]; omega
  have e2 : (partsC c).length * (40 + 2) ≤ 11 * 42 := Nat.mul_le_mul e (Nat.le_refl _)
  exact Nat.le_trans this (by omega)
set_option maxHeartbeats 4000000 in
set_option maxRecDepth 100000 in
theorem law9 (c : Ctl) (hc : CtlOk c) : PureC Tryd.prog 9 [.agg false (ctlL c)] (.bool true) := by
  have hp := print33 c hc
  have hr := rprint34 c hc
  have hl := printC_len hc
  have hq := parse26 [printC c] (by simp) (by simp [totB]; omega) (by simp; omega)
  rw [parse_print hc.1 hc.2.1] at hq
  generalize printC c = s at *
  obtain ⟨h7, h4, hi⟩ := hc
  obtain ⟨b0, b1, b2, b3, b4, b5, b6, i0, i1, i2, i3, rfl⟩ := ctl_ex h7 h4
  refine pure_of_aw (ys := [_]) [] [(9, [(8, .r 1)])] [(1, 0)] mixed Tryd.func9 rfl (by kernel_rfl) (by kernel_rfl) (by simp [Tryd.ntmps9]) rfl ?_
  simp only [ctlL, List.map_cons, List.map_nil, List.cons_append, List.nil_append] at hp hr hq ⊢
  simp
  refine pcall_of awake25 rfl ?_
  simp
  refine pcall_of hp rfl ?_
  have hk : ∀ i : Int, (if (if 2147483647 < i then 2147483647 else i) < -1 then -1 else if 2147483647 < i then 2147483647 else i) = clampI i := fun i => by
    unfold clampI
    by_cases c1 : 2147483647 < i
    · rw [if_pos c1, if_neg (by omega), if_neg (by omega), if_neg (by omega)]
    · rw [if_neg c1]
      by_cases c2 : i < -1
      · rw [if_pos c2, if_pos (by omega)]
      · rw [if_neg c2]
        by_cases c3 : i < 0
        · rw [if_pos c3]; omega
        · rw [if_neg c3, if_pos (by omega)]
  simp [hk]
  refine call_of hr ?_
  simp
  refine call_of hq ?_
  simp [Tryd.results9]
theorem cellsT4 : Tryd.prog.cellsOf 4 = 1 := by kernel_rfl
theorem cellsT38 : Tryd.prog.cellsOf 38 = 11 := by kernel_rfl
def ctlS (x : PC) : Prop := ∃ c : Ctl, x = .agg false (ctlL c) ∧ CtlOk c
theorem rd38 : RdV Tryd.prog 38 ctlS := by
  refine rv_struct Tryd.underlying38 ((rd_struct (Ss := [_, _, _, _, _, _, _, _, _, _, _]) Tryd.underlying38 (by rw [cellsT38]; simp [totF, cellsT3, cellsT4])
    ⟨rfl, (rd_bool Tryd.underlying4).c, (by simp [cellsT4]), (rd_bool Tryd.underlying4).c, (by simp [cellsT4]), (rd_bool Tryd.underlying4).c, (by simp [cellsT4]), (rd_bool Tryd.underlying4).c, (by simp [cellsT4]), (rd_bool Tryd.underlying4).c, (by simp [cellsT4]), (rd_bool Tryd.underlying4).c, (by simp [cellsT4]), (rd_bool Tryd.underlying4).c, (by simp [cellsT4]), (rd_int Tryd.underlying3).c, (by simp [cellsT4, cellsT3]), (rd_int Tryd.underlying3).c, (by simp [cellsT4, cellsT3]), (rd_int Tryd.underlying3).c, (by simp [cellsT4, cellsT3]), (rd_int Tryd.underlying3).c, trivial⟩).mono ?_) ?_
  · rintro x ⟨ys, rfl, h⟩
    obtain ⟨_, ys1, rfl, ⟨b0, rfl⟩, h1⟩ := all2_c h
    obtain ⟨_, ys2, rfl, ⟨b1, rfl⟩, h2⟩ := all2_c h1
    obtain ⟨_, ys3, rfl, ⟨b2, rfl⟩, h3⟩ := all2_c h2
    obtain ⟨_, ys4, rfl, ⟨b3, rfl⟩, h4⟩ := all2_c h3
    obtain ⟨_, ys5, rfl, ⟨b4, rfl⟩, h5⟩ := all2_c h4
    obtain ⟨_, ys6, rfl, ⟨b5, rfl⟩, h6⟩ := all2_c h5
    obtain ⟨_, ys7, rfl, ⟨b6, rfl⟩, h7⟩ := all2_c h6
    obtain ⟨_, ys8, rfl, ⟨i0, rfl, w0⟩, h8⟩ := all2_c h7
    obtain ⟨_, ys9, rfl, ⟨i1, rfl, w1⟩, h9⟩ := all2_c h8
    obtain ⟨_, ys10, rfl, ⟨i2, rfl, w2⟩, h10⟩ := all2_c h9
    obtain ⟨_, rfl, i3, rfl, w3⟩ := all2_1 h10
    refine ⟨([b0, b1, b2, b3, b4, b5, b6], [i0, i1, i2, i3]), rfl, rfl, rfl, ?_⟩
    have z0 := bounds_i64 w0
    have z1 := bounds_i64 w1
    have z2 := bounds_i64 w2
    have z3 := bounds_i64 w3
    intro i hi
    simp at hi
    rcases hi with rfl | rfl | rfl | rfl
    · exact z0
    · exact z1
    · exact z2
    · exact z3
  · rintro x ⟨c, rfl, _⟩; exact ⟨_, rfl⟩
theorem law9n {x : PC} (hx : ctlS x) : PureC Tryd.prog 9 [x] (.bool true) := by
  obtain ⟨c, rfl, h⟩ := hx
  exact law9 c h
end Go.Av
