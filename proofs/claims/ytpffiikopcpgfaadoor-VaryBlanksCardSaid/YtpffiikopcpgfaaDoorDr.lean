/- vary.Key over strings.Builder; names sorted and put in are the same; VaryNames computes true. -/
import Derived.Test.YtpffiikopcpgfaaDoorDq
set_option linter.all false
/-! part Q92 -/
namespace Go.Av
open Go.Proofs Go.RowKit

theorem isBuilder_below {T e : TypeId} {B b : Nat} {bs : List Value} {w w' : World} (h : Lib.IsBuilder T e B b bs w) (hB : Below w.heap.size w w') : Lib.IsBuilder T e B b bs w' := by
  have key : ∀ p, Lib.BuilderAt T e B b p bs w → Lib.BuilderAt T e B b p bs w' := by
    rintro p ⟨h1, v, h2, ⟨h3, h4⟩, h5⟩
    have hlt : ∀ {k : Nat} {o : Obj}, w.heap[k]? = some o → w'.heap[k]? = some o := fun hk => by rw [hB.block _ (heap_lt hk)]; exact hk
    refine ⟨h1, v, hlt h2, ⟨h3, ?_⟩, h5⟩
    rcases h4 with h4 | ⟨g, cap, cur, e1, e2, e3, e4⟩
    · exact .inl h4
    · exact .inr ⟨g, cap, cur, e1, e2, hlt e3, e4⟩
  exact h.imp (key _) (key _)
theorem lower_any (n : List UInt8) (hn : n.length ≤ 1000000) (W : World) : Calls Tryd.prog 76 #[.string ⟨n.toArray⟩] W fun e W' => e = .returned (.string ⟨(lowB n).toArray⟩) ∧ Below W.heap.size W W' := by
  have h := (lower76 n (by omega)).2 (memOf W) W [.string ⟨n.toArray⟩] (memOf_holds W) (.cons (.sc _ rfl) .nil)
  refine h.mono ?_
  rintro e W' ⟨v, N, rfl, hr, _, _, _, hB⟩
  cases hr
  exact ⟨rfl, hB⟩
theorem part_any (n : List UInt8) (fs : List Fd) (v2 : Value) (M : Mem) (hn : n.length ≤ 1000000) (hf : FdOk fs) (W : World) (hH : Holds W M) (h2 : Rep M v2 (.sl (fs.map fdP))) : Calls Tryd.prog 81 #[.string ⟨n.toArray⟩, v2] W fun e W' => e = .returned (.tuple #[.string ⟨(partB n fs).1.toArray⟩, .bool (partB n fs).2]) ∧ Below W.heap.size W W' := by
  have h := (part81 n fs hf hn).2 M W [.string ⟨n.toArray⟩, v2] hH (.cons (.sc _ rfl) (.cons h2 .nil))
  refine h.mono ?_
  rintro e W' ⟨v, N, rfl, hr, _, _, _, hB⟩
  cases hr with
  | tup h =>
    cases h with
    | cons h1 hs =>
      cases hs with
      | cons h2 hs =>
        cases hs
        cases h1
        cases h2
        exact ⟨rfl, hB⟩
theorem strCells_eq (l : List UInt8) : Lib.strCells ⟨l.toArray⟩ = Lib.byteCells l := by simp [Lib.strCells, Lib.byteCells]
theorem byteCells_app (a b : List UInt8) : Lib.byteCells a ++ Lib.byteCells b = Lib.byteCells (a ++ b) := by simp [Lib.byteCells]
theorem write_any (bs s : List UInt8) (S : ByteArray) (hS : S.data.toList = s) (B : Nat) (W : World) (h : Lib.IsBuilder 101 5 B B (Lib.byteCells bs) W) (hl : bs.length + s.length ≤ 140737488355328) (hB : B ≤ W.heap.size) :
    Calls Tryd.prog 80 #[.pointer (some ⟨B, 0, none⟩), .string S] W fun e W' => e = .returned (.tuple #[.int .i64 s.length, .nilIface]) ∧ (Lib.IsBuilder 101 5 B B (Lib.byteCells (bs ++ s)) W' ∧ Below B W W') := by
  have hz : S.size = s.length := by rw [← hS, Array.length_toList]; rfl
  refine (Any.Builder_WriteString Tryd.l166 Tryd.bldX B B (Lib.byteCells bs) S W h (by rw [Lib.byteCells_length]; omega) hB).mono ?_
  rintro e W' ⟨rfl, I, b⟩
  have e1 : Lib.strCells S = Lib.byteCells s := by rw [← hS]; rfl
  rw [e1, byteCells_app] at I
  exact ⟨by rw [hz], .inr I, b⟩
set_option maxHeartbeats 4000000 in
set_option maxRecDepth 1000000 in
theorem key_any (ns : List (List UInt8)) (fs : List Fd) (hn : NmOk ns) (hf : FdOk fs) (bk o c : Nat) (v2 : Value) (M : Mem) (w : World)
    (hcells : ∀ (j : Nat) (h : j < ns.length), w.cell? ⟨bk, o + j, none⟩ = some (.string ⟨ns[j].toArray⟩)) (hbk : bk < w.heap.size) (hcap : ns.length ≤ c) (hH : Holds w M) (h2 : Rep M v2 (.sl (fs.map fdP))) :
    Calls Tryd.prog 44 #[.slice (some ⟨bk, o, none⟩) ns.length c, v2] w fun e w' => e = .returned (.string ⟨(keyB ns fs).toArray⟩) ∧ Below w.heap.size w w' := by
  have hn1 := hn.1
  have HC : Aside (∀ (j : Nat) (h : j < ns.length), w.cell? ⟨bk, o + j, none⟩ = some (.string ⟨ns[j].toArray⟩)) := hcells
  have HH : Aside (Holds w M) := hH
  clear hcells hH
  go_enter Tryd.func44, Tryd.ntmps44
  go_wp2
  go_loopg [12] ns.length (fun g s12 wx => ∃ (k : Nat) (bs : List UInt8), s12 = .int .i64 k ∧ k ≤ ns.length ∧ ns.length ≤ k + g ∧ Lib.IsBuilder 101 5 w.heap.size w.heap.size (Lib.byteCells bs) wx ∧ Below w.heap.size w wx ∧ bs = keyB (ns.take k) fs)
  case atStart =>
    exact ⟨0, [], rfl, Nat.zero_le _, by omega, Lib.fresh_isBuilder 101 5 w, (Below.refl _ w).alloc (Nat.le_refl _) _, rfl⟩
  case round =>
    obtain ⟨k, bs, rfl, hk, hkg, hI, hB, hbs⟩ := hrel
    have HS : Aside (bs = keyB (ns.take k) fs) := hbs
    clear hbs
    have HI : Aside (Lib.IsBuilder 101 5 w.heap.size w.heap.size (Lib.byteCells bs) wr) := hI
    have hBs : w.heap.size ≤ wr.heap.size := hB.size
    by_cases hk2 : k < ns.length
    case neg =>
      obtain rfl : k = ns.length := by omega
      have hkz : ¬ ((ns.length : Int) < (ns.length : Int)) := by omega
      have e : bs = keyB ns fs := by have := HS.out; rwa [List.take_length] at this
      go_wp2_with (go_at_call 82; refine (Any.Builder_String_any Tryd.l169 Tryd.bldX w.heap.size w.heap.size bs _ hI hBs).mono ?_)
      rintro e' W1 rfl b1
      go_wp2
      go_ret
      exact ⟨rfl, hB.trans b1⟩
    have hkz : (k : Int) < (ns.length : Int) := by omega
    have hnl := hn.2 ns[k] (List.getElem_mem hk2)
    have hc : wr.cell? ⟨bk, o + k, none⟩ = some (.string ⟨ns[k].toArray⟩) := by
      rw [← HC.out k hk2]
      exact World.cell?_of_block (a := ⟨bk, o + k, none⟩) (hB.block bk hbk)
    have hst : keyB (ns.take (k + 1)) fs = bs ++ keyP fs ns[k] := by
      rw [List.take_succ_eq_append_getElem hk2, keyB_snoc, ← HS.out]
    have hbl : bs.length ≤ 1000000 * 3000002 := by
      rw [HS.out]
      refine Nat.le_trans (keyB_len hf (ns.take k) (fun n hm => hn.2 n (List.mem_of_mem_take hm))) ?_
      rw [List.length_take]
      exact Nat.mul_le_mul_right _ (Nat.le_trans (Nat.min_le_left _ _) (by have := hn.1; omega))
    have hlow := lowB_len ns[k]
    have hpl := partB_len ns[k] hf
    obtain ⟨n, hne⟩ : ∃ n, n = ns[k] := ⟨_, rfl⟩
    rw [← hne] at hnl hc hst hlow hpl
    clear hne
    have HST : Aside (keyB (ns.take (k + 1)) fs = bs ++ keyP fs n) := hst
    clear hst
    cases gk with
    | zero => omega
    | succ g =>
    go_wp2_with (go_at_call 76; refine (lower_any n hnl _).mono ?_)
    (first | rintro e W1 rfl b1 | rintro e W1 ⟨rfl, b1⟩)
    have I1 := isBuilder_below hI b1
    have B1 := hB.trans (b1.mono hBs)
    have s1 := B1.size
    go_wp2_with (go_at_call 80; refine (Any.Builder_WriteString Tryd.l166 Tryd.bldX w.heap.size w.heap.size (Lib.byteCells bs) ⟨(lowB n).toArray⟩ _ I1 (by rw [Lib.byteCells_length]; simp [ByteArray.size]; omega) s1).mono ?_)
    (first | rintro e W2 rfl I2 b2 | rintro e W2 ⟨rfl, I2, b2⟩)
    rw [strCells_eq, byteCells_app] at I2
    have B2 := B1.trans b2
    have s2 := B2.size
    have hH2 : Holds W2 M := holds_below HH.out B2
    have hp := part_any n fs v2 M hnl hf W2 hH2 h2
    generalize ht : (partB n fs).1 = t at hp hpl
    have HT : Aside ((partB n fs).1 = t) := ht
    clear ht
    cases hx : (partB n fs).2 with
    | false =>
      rw [hx] at hp
      have HX : Aside ((partB n fs).2 = false) := hx
      clear hx
      go_wp2_with (go_at_call 81; refine hp.mono ?_)
      (first | rintro e W3 rfl b3 | rintro e W3 ⟨rfl, b3⟩)
      have B3 := B2.trans (b3.mono s2)
      have s3 := B3.size
      have I3 := isBuilder_below (.inr I2) b3
      go_wp2_with (go_at_call 80; refine (Any.Builder_WriteString Tryd.l166 Tryd.bldX w.heap.size w.heap.size (Lib.byteCells (bs ++ lowB n)) ⟨#[10]⟩ _ I3 (by rw [Lib.byteCells_length]; simp [ByteArray.size]; omega) s3).mono ?_)
      (first | rintro e W4 rfl I4 b4 | rintro e W4 ⟨rfl, I4, b4⟩)
      have e10 : Lib.strCells ⟨#[10]⟩ = Lib.byteCells [10] := rfl
      rw [e10, byteCells_app] at I4
      have B4 := B3.trans b4
      go_wp2
      go_roundg g
      case rel => exact ⟨k + 1, bs ++ lowB n ++ [10], by first | rfl | (congr 1; omega), by omega, by omega, .inr I4, B4, by rw [HST.out]; simp [keyP, HX.out]⟩
      case measure => omega
    | true =>
      rw [hx] at hp
      have HX : Aside ((partB n fs).2 = true) := hx
      clear hx
      go_wp2_with (go_at_call 81; refine hp.mono ?_)
      (first | rintro e W3 rfl b3 | rintro e W3 ⟨rfl, b3⟩)
      have B3 := B2.trans (b3.mono s2)
      have s3 := B3.size
      have I3 := isBuilder_below (.inr I2) b3
      have hS : (((⟨#[58]⟩ : ByteArray) ++ ⟨t.toArray⟩).data.toList) = 58 :: t := by simp [ByteArray.data_append]
      have hw := write_any (bs ++ lowB n) (58 :: t) _ hS w.heap.size W3 I3 (by simp; omega) s3
      clear hS
      go_wp2_with (go_at_call 80; refine hw.mono ?_)
      (first | rintro e W4 rfl I4 b4 | rintro e W4 ⟨rfl, I4, b4⟩)
      have B4 := B3.trans b4
      have s4 := B4.size
      have hw2 := write_any (bs ++ lowB n ++ 58 :: t) [10] ⟨#[10]⟩ rfl w.heap.size W4 I4 (by simp; omega) s4
      go_wp2_with (go_at_call 80; refine hw2.mono ?_)
      (first | rintro e W5 rfl I5 b5 | rintro e W5 ⟨rfl, I5, b5⟩)
      have B5 := B4.trans b5
      go_wp2
      go_roundg g
      case rel => exact ⟨k + 1, bs ++ lowB n ++ 58 :: t ++ [10], by first | rfl | (congr 1; omega), by omega, by omega, I5, B5, by rw [HST.out]; simp [keyP, HX.out, HT.out]⟩
      case measure => omega
set_option maxHeartbeats 1000000 in
theorem key_none (a : Option Addr) (c : Nat) (v2 : Value) (w : World) : Calls Tryd.prog 44 #[.slice a 0 c, v2] w fun e w' => e = .returned (.string ⟨#[]⟩) ∧ Below w.heap.size w w' := by
  go_enter Tryd.func44, Tryd.ntmps44
  go_wp2
  go_loopg [12] 0 (fun g s12 wx => s12 = .int .i64 0 ∧ Lib.IsBuilder 101 5 w.heap.size w.heap.size (Lib.byteCells []) wx ∧ Below w.heap.size w wx)
  case atStart => exact ⟨rfl, Lib.fresh_isBuilder 101 5 w, (Below.refl _ w).alloc (Nat.le_refl _) _⟩
  case round =>
    obtain ⟨rfl, hI, hB⟩ := hrel
    have HI : Aside (Lib.IsBuilder 101 5 w.heap.size w.heap.size (Lib.byteCells []) wr) := hI
    have hBs : w.heap.size ≤ wr.heap.size := hB.size
    go_wp2_with (go_at_call 82; refine (Any.Builder_String_any Tryd.l169 Tryd.bldX w.heap.size w.heap.size [] _ HI.out hBs).mono ?_)
    (first | rintro e' W1 rfl b1 | rintro e' W1 ⟨rfl, b1⟩)
    go_wp2
    go_ret
    exact ⟨rfl, hB.trans b1⟩
/-- vary.Key: the document's key -/
theorem key44 (ns : List (List UInt8)) (fs : List Fd) (hn : NmOk ns) (hf : FdOk fs) : PureC Tryd.prog 44 [.sl (ns.map PC.str), .sl (fs.map fdP)] (.str (keyB ns fs)) := by
  refine ⟨⟨_, Tryd.func44, by kernel_rfl, by kernel_rfl⟩, fun M w vs hH hr => ?_⟩
  cases hr with
  | cons h hs =>
  cases hs with
  | cons h2 hs =>
  cases hs
  rename_i v1 v2
  have noneC : ∀ (a : Option Addr) (c : Nat), ns = [] → Calls Tryd.prog 44 #[.slice a 0 c, v2] w (After M w (.str (keyB ns fs))) := fun a c hx => by
    subst hx
    refine (key_none a c v2 w).mono fun e w' ⟨h1, hB⟩ => ?_
    subst h1
    exact ⟨_, M, rfl, .sc _ rfl, holds_below hH hB, Mem.le_refl _, fun _ _ => rfl, hB⟩
  generalize hz : ns.map PC.str = zs at h
  cases h with
  | nilsl => exact noneC _ _ (by simpa using hz)
  | sl0 a => exact noneC _ _ (by simpa using hz)
  | sl hl hc hm hsz hu h1c hat hrs =>
    rename_i b off n cap sz us
    subst hz
    have hus := reps_strs_inv hrs
    subst hus
    rw [cells_strs] at hat
    have hn' : n = ns.length := by simpa using hl.symm
    subst hn'
    rcases Nat.eq_zero_or_pos ns.length with h0 | h0
    · have hx : ns = [] := List.eq_nil_of_length_eq_zero h0
      subst hx
      exact noneC _ _ rfl
    · have hcell : ∀ (j : Nat) (h : j < ns.length), w.cell? ⟨b, off + j, none⟩ = some (.string ⟨ns[j].toArray⟩) := fun j hj => by
        refine hH _ _ _ (hat j _ ?_)
        rw [List.getElem?_map, List.getElem?_eq_getElem hj]; rfl
      have hb : b < w.heap.size := World.block_lt_of_cell? w _ (hcell 0 h0)
      refine (key_any ns fs hn hf b off cap v2 M w hcell hb (by omega) hH h2).mono fun e w' ⟨h1, hB⟩ => ?_
      subst h1
      exact ⟨_, M, rfl, .sc _ rfl, holds_below hH hB, Mem.le_refl _, fun _ _ => rfl, hB⟩
end Go.Av

/-! part Q93 -/
namespace Go.Av
open Go.Proofs

/-- rising, nothing twice -/
def Ris (l : List (List UInt8)) : Prop := l.Pairwise (· < ·)
theorem ris_uniq : ∀ {l m : List (List UInt8)}, Ris l → Ris m → (∀ x, x ∈ l ↔ x ∈ m) → l = m
  | [], [], _, _, _ => rfl
  | [], b :: m, _, _, h => by have := (h b).2 (by simp); cases this
  | a :: l, [], _, _, h => by have := (h a).1 (by simp); cases this
  | a :: l, b :: m, h1, h2, h => by
    obtain ⟨p1, p2⟩ := List.pairwise_cons.1 h1
    obtain ⟨q1, q2⟩ := List.pairwise_cons.1 h2
    have hab : a = b := by
      rcases List.mem_cons.1 ((h a).1 (by simp)) with e | e
      · exact e
      · rcases List.mem_cons.1 ((h b).2 (by simp)) with e' | e'
        · exact e'.symm
        · exact absurd (List.lt_trans (p1 b e') (q1 a e)) (List.lt_irrefl a)
    subst hab
    rw [ris_uniq p2 q2]
    intro x
    constructor
    · intro hx
      rcases List.mem_cons.1 ((h x).1 (by simp [hx])) with e | e
      · subst e; exact absurd (p1 x hx) (List.lt_irrefl x)
      · exact e
    · intro hx
      rcases List.mem_cons.1 ((h x).2 (by simp [hx])) with e | e
      · subst e; exact absurd (q1 x hx) (List.lt_irrefl x)
      · exact e
theorem atU_spec (out : List (List UInt8)) (s : List UInt8) : (∀ x ∈ out.take (atU out s), x < s) ∧ ∀ h : atU out s < out.length, ¬ out[atU out s] < s := by
  unfold atU
  induction out with
  | nil => simp
  | cons a out ih =>
    by_cases h : a < s
    · have e : ((a :: out).takeWhile fun x => decide (x < s)) = a :: out.takeWhile fun x => decide (x < s) := by simp [h]
      rw [e]
      simp only [List.length_cons, List.take_succ_cons, List.getElem_cons_succ]
      refine ⟨fun x hx => ?_, fun hl => ih.2 (by omega)⟩
      rcases List.mem_cons.1 hx with rfl | hx
      · exact h
      · exact ih.1 x hx
    · have e : ((a :: out).takeWhile fun x => decide (x < s)) = [] := by simp [h]
      rw [e]
      simp [h]
theorem insU_ris {out : List (List UInt8)} (h : Ris out) (s : List UInt8) : Ris (insU out s) ∧ ∀ x, x ∈ insU out s ↔ x = s ∨ x ∈ out := by
  obtain ⟨a1, a2⟩ := atU_spec out s
  have hle := atU_le out s
  unfold insU
  generalize atU out s = k at *
  by_cases c : out[k]? = some s
  · rw [if_pos c]
    refine ⟨h, fun x => ⟨fun hx => .inr hx, ?_⟩⟩
    rintro (rfl | hx)
    · exact List.mem_of_getElem? c
    · exact hx
  · rw [if_neg c]
    have hsp : out.take k ++ out.drop k = out := List.take_append_drop k out
    have hr := h
    unfold Ris at hr
    rw [← hsp, List.pairwise_append] at hr
    obtain ⟨r1, r2, r3⟩ := hr
    have hd : ∀ x ∈ out.drop k, s < x := by
      intro x hx
      have hk : k < out.length := by
        rcases Nat.lt_or_ge k out.length with h | h
        · exact h
        · rw [List.drop_of_length_le h] at hx; cases hx
      have e := List.drop_eq_getElem_cons hk
      rw [e] at hx r2
      have hns := a2 hk
      have hs : s < out[k] := by
        rw [List.not_lt] at hns
        rcases List.mem_cons.1 hx with _ | _ <;>
        · refine Classical.byContradiction fun hc => c ?_
          rw [List.not_lt] at hc
          rw [List.getElem?_eq_getElem hk, List.le_antisymm hc hns]
      rcases List.mem_cons.1 hx with rfl | hx
      · exact hs
      · exact List.lt_trans hs ((List.pairwise_cons.1 r2).1 x hx)
    refine ⟨?_, fun x => ?_⟩
    · unfold Ris
      rw [List.pairwise_append, List.pairwise_cons]
      refine ⟨r1, ⟨hd, r2⟩, fun x hx y hy => ?_⟩
      rcases List.mem_cons.1 hy with rfl | hy
      · exact a1 x hx
      · exact r3 x hx y hy
    · constructor
      · intro hx
        rcases List.mem_append.1 hx with hx | hx
        · exact .inr (List.mem_of_mem_take hx)
        · rcases List.mem_cons.1 hx with hx | hx
          · exact .inl hx
          · exact .inr (List.mem_of_mem_drop hx)
      · rintro (rfl | hx)
        · simp
        · rw [← hsp] at hx
          rcases List.mem_append.1 hx with hx | hx
          · exact List.mem_append.2 (.inl hx)
          · exact List.mem_append.2 (.inr (by simp [hx]))
theorem fold_ris : ∀ (l out : List (List UInt8)), Ris out → Ris (l.foldl insU out) ∧ ∀ x, x ∈ l.foldl insU out ↔ x ∈ l ∨ x ∈ out
  | [], out, h => ⟨h, fun x => by simp⟩
  | a :: l, out, h => by
    obtain ⟨h1, h2⟩ := insU_ris h a
    obtain ⟨h3, h4⟩ := fold_ris l _ h1
    refine ⟨h3, fun x => ?_⟩
    rw [List.foldl_cons, h4 x, h2 x, List.mem_cons]
    constructor
    · rintro (h | h | h)
      · exact .inl (.inr h)
      · exact .inl (.inl h)
      · exact .inr h
    · rintro ((h | h) | h)
      · exact .inr (.inl h)
      · exact .inl h
      · exact .inr (.inr h)
theorem compact_ris {d : List (List UInt8)} (hd : d.Pairwise (· ≤ ·)) : Ris (Lib.compact d) ∧ ∀ x, x ∈ Lib.compact d ↔ x ∈ d := by
  have hle : ∀ i j, i < j → (hj : j < d.length) → d.toArray[i]! ≤ d.toArray[j]! := fun i j hij hj => by
    rw [getElem!_pos _ _ (by simp; omega), getElem!_pos _ _ (by simpa using hj)]
    simpa using List.pairwise_iff_getElem.1 hd i j (by omega) hj hij
  have key : ∀ m, m ≤ d.length → Ris (Lib.compactUpTo d.toArray m) ∧ (∀ x, x ∈ Lib.compactUpTo d.toArray m ↔ ∃ j, j < m ∧ d.toArray[j]! = x) := by
    intro m
    induction m with
    | zero => intro _; simp [Lib.compactUpTo, Ris]
    | succ m ih =>
      intro hm
      obtain ⟨i1, i2⟩ := ih (by omega)
      rw [Lib.compactUpTo_succ]
      by_cases hk : Lib.keeps d.toArray m = true
      · rw [if_pos hk]
        refine ⟨?_, fun x => ?_⟩
        · unfold Ris
          rw [List.pairwise_append]
          refine ⟨i1, by simp, fun x hx y hy => ?_⟩
          obtain rfl := List.mem_singleton.1 hy
          obtain ⟨j, hj, rfl⟩ := (i2 x).1 hx
          have hl := hle j m hj (by omega)
          refine Classical.byContradiction fun hc => ?_
          rw [List.not_lt] at hc
          have he := List.le_antisymm hl hc
          -- then the one before is equal too
          have h1 : d.toArray[m - 1]! = d.toArray[m]! := by
            rcases Nat.lt_or_ge j (m - 1) with h | h
            · have l1 := hle j (m - 1) h (by omega)
              have l2 := hle (m - 1) m (by omega) (by omega)
              rw [he] at l1
              exact List.le_antisymm l2 l1
            · have : j = m - 1 := by omega
              subst this; exact he
          unfold Lib.keeps at hk
          rcases of_decide_eq_true hk with h | h
          · omega
          · exact h h1.symm
        · rw [List.mem_append, i2]
          constructor
          · rintro (⟨j, hj, e⟩ | hx)
            · exact ⟨j, by omega, e⟩
            · exact ⟨m, by omega, (List.mem_singleton.1 hx).symm⟩
          · rintro ⟨j, hj, e⟩
            rcases Nat.lt_or_ge j m with h | h
            · exact .inl ⟨j, h, e⟩
            · have : j = m := by omega
              subst this; exact .inr (List.mem_singleton.2 e.symm)
      · rw [if_neg hk, List.append_nil]
        refine ⟨i1, fun x => ?_⟩
        rw [i2]
        have hk2 : 0 < m ∧ d.toArray[m - 1]! = d.toArray[m]! := by
          have hk3 : ¬ (m = 0 ∨ d.toArray[m]! ≠ d.toArray[m - 1]!) := fun h => hk (by unfold Lib.keeps; exact decide_eq_true h)
          refine ⟨Nat.pos_of_ne_zero fun h => hk3 (.inl h), ?_⟩
          exact Classical.byContradiction fun h => hk3 (.inr fun e => h e.symm)
        constructor
        · rintro ⟨j, hj, e⟩; exact ⟨j, by omega, e⟩
        · rintro ⟨j, hj, e⟩
          rcases Nat.lt_or_ge j m with h | h
          · exact ⟨j, h, e⟩
          · have : j = m := by omega
            subst this
            exact ⟨j - 1, by omega, by rw [hk2.2, e]⟩
  obtain ⟨k1, k2⟩ := key d.length (Nat.le_refl _)
  refine ⟨k1, fun x => ?_⟩
  unfold Lib.compact
  rw [k2]
  constructor
  · rintro ⟨j, hj, rfl⟩
    rw [getElem!_pos _ _ (by simpa using hj)]
    simp
  · intro hx
    obtain ⟨j, hj, e⟩ := List.mem_iff_getElem.1 hx
    refine ⟨j, hj, ?_⟩
    rw [getElem!_pos _ _ (by simpa using hj)]
    simpa using e
theorem sortS_le (l : List (List UInt8)) : (sortS l).Pairwise (· ≤ ·) := by
  have := List.pairwise_mergeSort (le := fun x y : List UInt8 => decide (x ≤ y)) (fun a b c h k => by simp at *; exact List.le_trans h k) (fun a b => by simpa using List.le_total a b) l
  exact this.imp (fun h => by simpa using h)
theorem sort_fold (l : List (List UInt8)) : Lib.compact (sortS l) = l.foldl insU [] := by
  obtain ⟨h1, h2⟩ := compact_ris (sortS_le l)
  obtain ⟨h3, h4⟩ := fold_ris l [] (by unfold Ris; exact .nil)
  refine ris_uniq h1 h3 fun x => ?_
  rw [h2, h4]
  have := (List.mergeSort_perm l fun x y => decide (x ≤ y)).mem_iff (a := x)
  unfold sortS
  rw [this]; simp
theorem vary_names (vs : List (List UInt8)) : varyN vs = rnamesN vs := by
  unfold varyN rnamesN
  cases namesF (splitB vs) with
  | none => rfl
  | some l => simp [sort_fold]
end Go.Av

/-! part Q94 -/
namespace Go.Av
open Go.Proofs

def aV : List UInt8 := [65, 99, 99, 101, 112, 116, 44, 32, 65]
def bV : List UInt8 := [97, 99, 99, 101, 112, 116]
def cV : List UInt8 := [65, 99, 99, 101, 112, 116]
def dV : List UInt8 := [120, 44, 32, 121]
theorem aw_names : rnamesN [aV, bV] = some [[97], bV] := by kernel_rfl
theorem aw_key : keyB [[97], bV] [(cV, dV)] = [97, 10, 97, 99, 99, 101, 112, 116, 58, 120, 44, 121, 10] := by kernel_rfl
set_option maxHeartbeats 1000000 in
theorem awake38 : PureC Tryd.prog 38 [] (.bool true) := by
  have hA := names40 [aV, bV] (by simp) (by decide) (by decide)
  rw [vary_names, aw_names] at hA
  have hB := same42 [[97], bV] [[97], bV] (by simp) (by simp)
  have hC := key44 [[97], bV] [(cV, dV)] ⟨by simp, by decide⟩ ⟨by simp, by decide, by decide⟩
  rw [aw_key] at hC
  have hA2 : PureC Tryd.prog 40 [.sl [.str aV, .str bV]] (.tp [.sl [.str [97], .str bV], .bool true]) := hA
  have hB2 : PureC Tryd.prog 42 [.sl [.str [97], .str bV], .sl [.str [97], .str bV]] (.bool true) := by
    have e : decide ((([97] : List UInt8) :: [bV]) = ([97] : List UInt8) :: [bV]) = true := by simp
    rw [e] at hB; exact hB
  have hC2 : PureC Tryd.prog 44 [.sl [.str [97], .str bV], .sl [.agg false [.str cV, .str dV]]] (.str [97, 10, 97, 99, 99, 101, 112, 116, 58, 120, 44, 121, 10]) := hC
  refine pure_of_aw (ys := [_]) [] [] [] mixed Tryd.func38 rfl (by kernel_rfl) (by kernel_rfl) (by simp [Tryd.ntmps38]) rfl ?_
  simp
  refine pcall_of hA2 rfl ?_
  simp
  refine pcall_of hB2 rfl ?_
  simp
  refine pcall_of hC2 rfl ?_
  simp [Tryd.results38]
theorem few_tot {vs : List (List UInt8)} (h : fewB vs = true) : vs.length ≤ 20 ∧ totB vs ≤ 10000 ∧ ∀ v ∈ vs, v.length ≤ 500 := by
  unfold fewB at h
  simp only [Bool.and_eq_true, decide_eq_true_eq, List.all_eq_true] at h
  obtain ⟨h1, h2⟩ := h
  refine ⟨h1, ?_, h2⟩
  have : ∀ l : List (List UInt8), (∀ v ∈ l, v.length ≤ 500) → totB l ≤ l.length * 500 := by
    intro l; induction l with
    | nil => intro _; simp [totB]
    | cons a l ih => intro h; rw [totB_cons, List.length_cons]; have := ih fun v hv => h v (by simp [hv]); have := h a (by simp); omega
  have := this vs h2
  omega
theorem insF_len (l : List (List UInt8)) : ∀ out, (l.foldl insU out).length ≤ out.length + l.length := by
  induction l with
  | nil => intro out; simp
  | cons a l ih => intro out; rw [List.foldl_cons, List.length_cons]; have := ih (insU out a); have := insU_len out a; omega
theorem rnamesN_len {vs l : List (List UInt8)} (h : rnamesN vs = some l) : l.length ≤ totB vs := by
  unfold rnamesN namesF at h
  split at h
  · simp only [Option.map_some, Option.some.injEq] at h
    subst h
    have := insF_len ((splitB vs).map lowB) []
    have h2 := splitB_len vs
    rw [List.length_map, List.length_nil] at this
    omega
  · cases h
set_option maxHeartbeats 1000000 in
theorem law13 (vs : List (List UInt8)) (hv : vs.length ≤ 9223372036854775807) : PureC Tryd.prog 13 [.sl (vs.map PC.str)] (.bool true) := by
  refine pure_of_aw (ys := [_]) [] [] [] mixed Tryd.func13 rfl (by kernel_rfl) (by kernel_rfl) (by simp [Tryd.ntmps13]) rfl ?_
  simp
  refine pcall_of awake38 rfl ?_
  simp
  refine pcall_of (few39 vs hv) (by simp) ?_
  cases hf : fewB vs with
  | false =>
    simp
    refine pcall_of awake38 rfl ?_
    simp [Tryd.results13]
  | true =>
    obtain ⟨f1, f2, f3⟩ := few_tot hf
    have hA := names40 vs (by omega) (by omega) (fun v hv => Nat.le_trans (f3 v hv) (by omega))
    have hB := rnames41 vs (by omega) (by omega) (fun v hv => Nat.le_trans (f3 v hv) (by omega))
    rw [vary_names] at hA
    have hl : ((rnamesN vs).getD []).length ≤ 10000 := by
      cases h : rnamesN vs with
      | none => simp
      | some l => exact Nat.le_trans (rnamesN_len h) f2
    generalize rnamesN vs = R at *
    have hS := same42 (R.getD []) (R.getD []) (by omega) (by omega)
    rw [decide_eq_true rfl] at hS
    simp
    refine pcall_of hA (by simp) ?_
    simp
    refine pcall_of hB (by simp) ?_
    simp
    refine pcall_of hS (by simp) ?_
    simp [Tryd.results13]
theorem law13n {x : PC} (hx : strsS x) : PureC Tryd.prog 13 [x] (.bool true) := by
  obtain ⟨vs, rfl, h⟩ := hx
  exact law13 vs h
end Go.Av
