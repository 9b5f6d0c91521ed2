/- Targets of one segment: how octets are made normal, hosts, paths, and where a reference leads. -/
import Derived.Test.YtffoncjofjgojaaGreatDoorZi
import Derived.BigCall
import Derived.Deep.LoopGhost
import Derived.OwnWalk
import Derived.Lib.RabinKarpLaws
set_option linter.all false
/-! part Z111 -/
namespace Go.Av
open Go.Proofs
set_option maxRecDepth 100000
def letU (c : UInt8) : Bool := (decide (97 ≤ c.toNat) && decide (c.toNat ≤ 122)) || (decide (65 ≤ c.toNat) && decide (c.toNat ≤ 90)) || (decide (48 ≤ c.toNat) && decide (c.toNat ≤ 57))
theorem letter233 (c : UInt8) : PureC Tryz.prog 233 [u8P c] (.bool (letU c)) := by
  show PureC Tryz.prog 233 [.sc (.int .u8 c.toNat)] _
  unfold letU
  generalize c.toNat = n
  refine pure_of_aw (ys := [_]) [] [] [] mixed Tryz.func233 rfl (by kernel_rfl) (by kernel_rfl) (by simp [Tryz.ntmps233]) rfl ?_
  simp
  by_cases a1 : (97 : Int) ≤ n
  · have a1' : 97 ≤ n := by omega
    by_cases a2 : (n : Int) ≤ 122
    · have a2' : n ≤ 122 := by omega
      simp [a1, a2, a1', a2', Tryz.results233]
    · have a2' : ¬ n ≤ 122 := by omega
      have b1 : (65 : Int) ≤ n := by omega
      have b2 : ¬ (n : Int) ≤ 90 := by omega
      have b2' : ¬ n ≤ 90 := by omega
      have d1 : (48 : Int) ≤ n := by omega
      have d2 : ¬ (n : Int) ≤ 57 := by omega
      have d2' : ¬ n ≤ 57 := by omega
      simp [a1, a2, a2', b1, b2, b2', d1, d2, d2', Tryz.results233]
  · have a1' : ¬ 97 ≤ n := by omega
    by_cases b1 : (65 : Int) ≤ n
    · have b1' : 65 ≤ n := by omega
      by_cases b2 : (n : Int) ≤ 90
      · have b2' : n ≤ 90 := by omega
        simp [a1, a1', b1, b2, b1', b2', Tryz.results233]
      · have b2' : ¬ n ≤ 90 := by omega
        have d1 : (48 : Int) ≤ n := by omega
        have d2 : ¬ (n : Int) ≤ 57 := by omega
        have d2' : ¬ n ≤ 57 := by omega
        simp [a1, a1', b1, b2, b2', d1, d2, d2', Tryz.results233]
    · have b1' : ¬ 65 ≤ n := by omega
      by_cases d1 : (48 : Int) ≤ n
      · have d1' : 48 ≤ n := by omega
        by_cases d2 : (n : Int) ≤ 57
        · have d2' : n ≤ 57 := by omega
          simp [a1, a1', b1, b1', d1, d2, d1', d2', Tryz.results233]
        · have d2' : ¬ n ≤ 57 := by omega
          simp [a1, a1', b1, b1', d1, d2, d2', Tryz.results233]
      · have d1' : ¬ 48 ≤ n := by omega
        simp [a1, a1', b1, b1', d1, d1', Tryz.results233]
def ofU (c : UInt8) (L : List (List UInt8)) : Bool := letU c || L.any fun s => decide (0 ≤ ixB s c)
theorem of187 (c : UInt8) (L : List (List UInt8)) (hL : L.length ≤ 1000000) : PureC Tryz.prog 187 [u8P c, .sl (L.map PC.str)] (.bool (ofU c L)) := by
  refine pure_of_aw (ys := [_]) [] [] [] mixed Tryz.func187 rfl (by kernel_rfl) (by kernel_rfl) (by simp [Tryz.ntmps187]) rfl ?_
  obtain ⟨R, hR⟩ : ∃ R, R = ofU c L := ⟨_, rfl⟩
  rw [← hR]
  unfold ofU at hR
  simp
  refine pcall_of (letter233 c) (by simp) ?_
  cases hl : letU c with
  | true =>
    rw [hl] at hR
    simp [hR, Tryz.results187]
  | false =>
    rw [hl] at hR
    simp only [Bool.false_or] at hR
    simp
    refine aw_loop0 (fun i : Nat => i ≤ L.length ∧ R = (L.drop i).any fun s => decide (0 ≤ ixB s c)) (fun i => [(0, .p (u8P c)), (9, .p (.sl (L.map PC.str))), (10, .p (.int L.length)), (11, .p (.int i))]) (fun i => L.length - i) 0 ⟨by simp, by simpa using hR⟩ (leN_id (by simp)) ?_
    rintro i ⟨g1, g2⟩
    by_cases ci : i < L.length
    · have wi : IntKind.i64.wrap ((i : Int) + 1) = ((i + 1 : Nat) : Int) := by rw [wrap64_id (by omega) (by omega)]; rfl
      rw [List.drop_eq_getElem_cons ci, List.any_cons] at g2
      simp [ci]
      refine pcall_of (sindex93 L[i] c) (by simp) ?_
      by_cases c2 : 0 ≤ ixB L[i] c
      · simp [c2] at g2
        simp [c2, g2, Tryz.results187]
      · simp [c2] at g2
        simp [c2, wi]
        exact ⟨i + 1, ⟨by omega, by simpa using g2⟩, by omega, leN_id (by simp)⟩
    · rw [List.drop_eq_nil_of_le (by omega)] at g2
      simp at g2
      simp [ci, g2, Tryz.results187]
def onlyU (s : List UInt8) (L : List (List UInt8)) : Bool := s.all (fun c => ofU c L) && !decide (s = [])
theorem only228 (s : List UInt8) (L : List (List UInt8)) (hs : s.length ≤ 1000000) (hL : L.length ≤ 1000000) : PureC Tryz.prog 228 [.str s, .sl (L.map PC.str)] (.bool (onlyU s L)) := by
  refine pure_of_aw (ys := [_]) [] [] [] mixed Tryz.func228 rfl (by kernel_rfl) (by kernel_rfl) (by simp [Tryz.ntmps228]) rfl ?_
  obtain ⟨R, hR⟩ : ∃ R, R = onlyU s L := ⟨_, rfl⟩
  rw [← hR]
  unfold onlyU at hR
  simp
  refine aw_loop0 (fun i : Nat => i ≤ s.length ∧ R = ((s.drop i).all (fun c => ofU c L) && !decide (s = []))) (fun i => [(0, .p (.str s)), (1, .p (.sl (L.map PC.str))), (7, .p (.int s.length)), (8, .p (.int i))]) (fun i => s.length - i) 0 ⟨by simp, by simpa using hR⟩ (leN_id (by simp)) ?_
  rintro i ⟨g1, g2⟩
  by_cases ci : i < s.length
  · have wi : IntKind.i64.wrap ((i : Int) + 1) = ((i + 1 : Nat) : Int) := by rw [wrap64_id (by omega) (by omega)]; rfl
    rw [List.drop_eq_getElem_cons ci, List.all_cons] at g2
    simp [ci]
    refine pcall_of (of187 s[i] L hL) (by simp [u8P]) ?_
    cases c2 : ofU s[i] L with
    | false =>
      simp [c2] at g2
      simp [g2, Tryz.results228]
    | true =>
      simp only [c2, Bool.true_and] at g2
      simp [wi]
      exact ⟨i + 1, ⟨by omega, g2⟩, by omega, leN_id (by simp)⟩
  · rw [List.drop_eq_nil_of_le (by omega)] at g2
    simp only [List.all_nil, Bool.true_and] at g2
    have ci' : ¬ (i : Int) < (s.length : Int) := by omega
    by_cases h0 : s = []
    · subst h0
      simp at g2
      simp [g2, Tryz.results228]
    · simp [h0] at g2
      simp [ci, ci', h0, g2, Tryz.results228]
end Go.Av

/-! part Z112 -/
namespace Go.Av
open Go.Proofs Go.RowKit
set_option maxRecDepth 100000
theorem reps_strs {M : Mem} : ∀ L : List (List UInt8), Reps M (L.map fun l => Value.string ⟨l.toArray⟩) (L.map PC.str)
  | [] => .nil
  | l :: L => .cons (.sc _ rfl) (reps_strs L)
theorem cellsOf_strs : ∀ L : List (List UInt8), cellsOf (L.map fun l => Value.string ⟨l.toArray⟩) = L.map fun l => Value.string ⟨l.toArray⟩
  | [] => rfl
  | l :: L => by
    have := cellsOf_strs L
    simp only [cellsOf, List.map_cons, List.flatMap_cons] at this ⊢
    rw [this]; rfl
theorem of_any (x : UInt8) (L : List (List UInt8)) (hL : L.length ≤ 1000000) (a : Nat) (W : World) {cs : Array Value} {t : TypeId} {fz : Nat × Nat} (hrow : W.heap[a]? = some (.cells cs t fz)) (hcs : cs.toList = L.map fun l => Value.string ⟨l.toArray⟩) (hg : GOk (memOf W)) :
    Calls Tryz.prog 187 #[.int .u8 x.toNat, .slice (some ⟨a, 0, none⟩) L.length L.length] W fun e w' => e = .returned (.bool (ofU x L)) ∧ Below W.heap.size W w' := by
  have hat : At (memOf W) a 0 (cellsOf (L.map fun l => Value.string ⟨l.toArray⟩)) := fun j v e => by
    rw [cellsOf_strs, ← hcs] at e
    show W.cell? ⟨a, 0 + j, none⟩ = some v
    unfold World.cell?; rw [hrow]; simpa using e
  have h := (of187 x L hL).2 (memOf W) W [.int .u8 x.toNat, .slice (some ⟨a, 0, none⟩) L.length L.length] ⟨fun _ _ _ h => h, hg⟩
    (.cons (.sc _ rfl) (.cons (.sl (us := L.map fun l => Value.string ⟨l.toArray⟩) (sz := 1) (by simp) (Nat.le_refl _) (by unfold maxLen; omega) (by omega) (fun u hu => by
      obtain ⟨l, _, rfl⟩ := List.mem_map.1 hu; rfl) (fun v hv => by
      rw [cellsOf_strs] at hv
      obtain ⟨l, _, rfl⟩ := List.mem_map.1 hv; rfl) hat (reps_strs L)) .nil))
  refine h.mono ?_
  rintro e w' ⟨v, N, rfl, hr, _, _, _, hB⟩
  cases hr
  exact ⟨rfl, hB⟩
def freeU : List UInt8 := [45, 46, 95, 126]
def subsU : List UInt8 := [33, 36, 38, 39, 40, 41, 42, 43, 44, 59, 61]
def moreU (m : List UInt8) : List (List UInt8) := [freeU, subsU, [58, 64, 47], m]
theorem gok_below {w W : World} (h : GOk (memOf w)) (hb : Below w.heap.size w W) : GOk (memOf W) := by
  obtain ⟨m, e⟩ := h
  refine ⟨m, ?_⟩
  have e' : w.cell? ⟨0, 0, none⟩ = some (.int .i64 m) := e
  show W.cell? ⟨0, 0, none⟩ = _
  have hlt : 0 < w.heap.size := by
    unfold World.cell? at e'
    rcases Nat.lt_or_ge 0 w.heap.size with h | h
    · exact h
    · rw [Array.getElem?_eq_none h] at e'; simp at e'
  rw [hb.cell (p := ⟨0, 0, none⟩) hlt]; exact e'
theorem builder_below {T e : TypeId} {B b : Nat} {bs : List Value} {W W' : World} (h : Lib.IsBuilder T e B b bs W) (hb : Below W.heap.size W W') : Lib.IsBuilder T e B b bs W' := by
  have go : ∀ p, Lib.BuilderAt T e B b p bs W → Lib.BuilderAt T e B b p bs W' := fun p h => by
    have hlt := h.lt
    obtain ⟨hB, v, hv, hown, hne⟩ := h
    exact ⟨hB, v, (hb.block b hlt).trans hv, hown.kept (row := none) ⟨hb.os, hb.tape, hb.output, hb.size, fun k hk _ => hb.block k hk⟩ (Classical.em _), hne⟩
  exact h.elim (fun x => .inl (go _ x)) (fun x => .inr (go _ x))
theorem moreU_len (m : List UInt8) : (moreU m).length ≤ 1000000 := by simp [moreU]
def rowU (m : ByteArray) : Array Value := #[.string ⟨#[45, 46, 95, 126]⟩, .string ⟨#[33, 36, 38, 39, 40, 41, 42, 43, 44, 59, 61]⟩, .string ⟨#[58, 64, 47]⟩, .string m]
theorem rowU_list (m : ByteArray) : (rowU m).toList = (moreU m.data.toList).map fun l => Value.string ⟨l.toArray⟩ := rfl
theorem of_row (x : UInt8) (m : ByteArray) (wr : World) (t : TypeId) (fz : Nat × Nat) (hg : GOk (memOf wr)) (hof : ofU x (moreU m.data.toList) = true) :
    Calls Tryz.prog 187 #[.int .u8 x.toNat, .slice (some ⟨wr.heap.size, 0, none⟩) 4 4] (wr.alloc (.cells (rowU m) t fz)) fun e w' => e = .returned (.bool true) ∧ Below wr.heap.size wr w' := by
  have hb : Below wr.heap.size wr (wr.alloc (.cells (rowU m) t fz)) := (Below.refl _ _).alloc (Nat.le_refl _) _
  have hrow : (wr.alloc (.cells (rowU m) t fz)).heap[wr.heap.size]? = some (.cells (rowU m) t fz) := Array.getElem?_push_size
  have hsz : wr.heap.size ≤ (wr.alloc (.cells (rowU m) t fz)).heap.size := hb.size
  have h := of_any x (moreU m.data.toList) (moreU_len _) wr.heap.size (wr.alloc (.cells (rowU m) t fz)) hrow (rowU_list m) (gok_below hg hb)
  refine h.mono ?_
  rintro e w' ⟨rfl, hB⟩
  exact ⟨by rw [hof], hb.trans (hB.mono hsz)⟩
set_option maxHeartbeats 4000000 in
theorem coded_any (s m : ByteArray) (w : World) (hs : s.size ≤ 1000000) (hg : GOk (memOf w)) (hall : ∀ x ∈ s.data.toList, x ≠ 37 ∧ ofU x (moreU m.data.toList) = true) :
    Calls Tryz.prog 144 #[.string s, .string m] w fun e w' => e = .returned (.tuple #[.string s, .bool true]) ∧ Below w.heap.size w w' := by
  go_enter Tryz.func144, Tryz.ntmps144
  go_wp2
  go_loopg [7] s.size (fun g s7 wx => ∃ (k : Nat), s7 = .int .i64 k ∧ k ≤ s.size ∧ s.size ≤ k + g ∧ Lib.IsBuilder 194 5 w.heap.size w.heap.size (Lib.byteCells (s.data.toList.take k)) wx ∧ Below w.heap.size w wx)
  case atStart =>
    exact ⟨0, rfl, Nat.zero_le _, by omega, Lib.fresh_isBuilder 194 5 w, (Below.refl _ w).alloc (Nat.le_refl _) _⟩
  case round =>
    obtain ⟨k, rfl, hks, hkg, hI, hB⟩ := hrel
    have HI : Aside (Lib.IsBuilder 194 5 w.heap.size w.heap.size (Lib.byteCells (s.data.toList.take k)) wr) := hI
    have hBs : w.heap.size ≤ wr.heap.size := hB.size
    by_cases hk : k < s.size
    case neg =>
      obtain rfl : k = s.size := by omega
      have hkz : ¬ ((s.size : Int) < (s.size : Int)) := by omega
      have hts : s.data.toList.take s.size = s.data.toList := List.take_of_length_le (by rw [← Lib.size_eq]; exact Nat.le_refl _)
      rw [hts] at hI
      go_wp2_with (go_at_call 191; refine (Any.Builder_String_any Tryz.l169 Tryz.bldX w.heap.size w.heap.size s.data.toList _ hI hBs).mono ?_)
      rintro e W1 ⟨rfl, hb1⟩
      intro b1
      go_wp2
      go_ret2
      exact ⟨by simp, hB.trans b1⟩
    have hkz : (k : Int) < (s.size : Int) := by omega
    obtain ⟨x, hxk⟩ : ∃ x : UInt8, s[k]'hk = x := ⟨_, rfl⟩
    have hxl : s.data.toList[k]? = some x := by rw [← hxk]; exact Lib.data_getElem? s k hk
    obtain ⟨n37, hof⟩ := hall x (List.mem_of_getElem? hxl)
    have n1 : ¬ ((x.toNat : Int) = 37) := fun h => n37 (UInt8.toNat_inj.1 (Int.ofNat_inj.1 h))
    have hgr : GOk (memOf wr) := gok_below hg hB
    have hlen : (Lib.byteCells (s.data.toList.take k)).length + 1 ≤ 140737488355328 := by rw [Lib.byteCells_length, List.length_take]; omega
    have htk : s.data.toList.take k ++ [x] = s.data.toList.take (k + 1) := by
      have hlt := (List.getElem?_eq_some_iff.1 hxl).1
      rw [List.take_add_one, hxl]; rfl
    cases gk with
    | zero => omega
    | succ g =>
    clear hall HI
    go_wp2_with (first
      | (go_at_call 187; refine (of_row x m wr _ _ hgr hof).mono ?_; rintro e W2 ⟨rfl, hB2⟩)
      | (go_at_call 188; refine (Any.Builder_WriteByte Tryz.l167 Tryz.bldX w.heap.size w.heap.size (Lib.byteCells (s.data.toList.take k)) x.toNat _ (builder_below hI hB2) hlen (Nat.le_trans hBs hB2.size)).mono ?_))
    rintro e W1 ⟨rfl, h1, b1⟩
    rw [byteCells_snoc, htk] at h1
    go_wp2
    go_roundg g
    case rel => exact ⟨k + 1, by first | rfl | (congr 1; omega), by omega, by omega, .inr h1, (hB.trans (hB2.mono hBs)).trans b1⟩
    case measure => omega
end Go.Av

/-! part Z113 -/
namespace Go.Av
open Go.Proofs Go.RowKit
set_option maxRecDepth 100000
theorem coded144 (s m : List UInt8) (hs : s.length ≤ 1000000) (hall : ∀ x ∈ s, x ≠ 37 ∧ ofU x (moreU m) = true) : PureC Tryz.prog 144 [.str s, .str m] (.tp [.str s, .bool true]) := by
  refine ⟨⟨_, Tryz.func144, by kernel_rfl, by kernel_rfl⟩, fun M w vs hH hr => ?_⟩
  cases hr with
  | cons h1 hs1 =>
    cases hs1 with
    | cons h2 hs2 =>
      cases hs2; cases h1; cases h2
      have hg : GOk (memOf w) := hH.g.mono fun a i v e => hH.app a i v e
      have key := coded_any ⟨s.toArray⟩ ⟨m.toArray⟩ w (by simpa [ByteArray.size] using hs) hg (by simpa using hall)
      refine key.mono fun e w' ⟨h1, h2⟩ => ?_
      exact ⟨_, M, h1, Rep.tup (vs := [_, _]) (.cons (.sc _ rfl) (.cons (.sc _ rfl) .nil)), holds_below hH h2, Mem.le_refl _, fun _ _ => rfl, h2⟩
/-- where an octet stands last; -1: nowhere -/
def lixB : List UInt8 → UInt8 → Int
  | [], _ => -1
  | a :: l, c => if 0 ≤ lixB l c then lixB l c + 1 else if a = c then 0 else -1
theorem lixB_snoc (l : List UInt8) (a c : UInt8) : lixB (l ++ [a]) c = if a = c then (l.length : Int) else lixB l c := by
  induction l with
  | nil => by_cases h : a = c <;> simp [lixB, h]
  | cons b l ih =>
    simp only [List.cons_append, lixB, ih]
    by_cases h : a = c
    · simp [h]
    · simp [h]
theorem last146 (l : List UInt8) (c : UInt8) (hl : l.length ≤ 1000000) : PureC Tryz.prog 146 [.str l, u8P c] (.int (lixB l c)) := by
  refine pure_of_aw (ys := [_]) [] [] [] mixed Tryz.func146 rfl (by kernel_rfl) (by kernel_rfl) (by simp [Tryz.ntmps146]) rfl ?_
  have w0 : IntKind.i64.wrap ((l.length : Int) - 1) = (l.length : Int) - 1 := wrap64_id (by omega) (by omega)
  obtain ⟨R, hR⟩ : ∃ R, R = lixB l c := ⟨_, rfl⟩
  rw [← hR]
  simp [w0]
  refine aw_loop0 (fun i : Nat => i ≤ l.length ∧ R = lixB (l.take i) c) (fun i => [(0, .p (.str l)), (1, .p (u8P c)), (5, .p (.int ((i : Int) - 1)))]) (fun i => i) l.length ⟨Nat.le_refl _, by simpa using hR⟩ (leN_id (by simp)) ?_
  rintro i ⟨g1, g2⟩
  cases i with
  | zero => simp [lixB] at g2; simp [g2, Tryz.results146]
  | succ k =>
    have hk : k < l.length := by omega
    rw [List.take_succ_eq_append_getElem hk, lixB_snoc] at g2
    have e1 : ((k + 1 : Nat) : Int) - 1 = (k : Int) := by omega
    have w1 : IntKind.i64.wrap ((k : Int) - 1) = (k : Int) - 1 := wrap64_id (by omega) (by omega)
    simp only [e1]
    by_cases hc : l[k] = c
    · rw [if_pos hc, List.length_take, Nat.min_eq_left (by omega)] at g2
      simp [hk, hc, u8P, g2, Tryz.results146]
    · rw [if_neg hc] at g2
      have hc' : ((l[k].toNat : Int) == (c.toNat : Int)) = false := by simpa using fun h => hc (UInt8.toNat_inj.1 (Int.ofNat_inj.1 h))
      simp [hk, hc', u8P, w1]
      exact ⟨k, ⟨by omega, g2⟩, by omega, leN_id (by simp)⟩
theorem last110 (l : List UInt8) (c : UInt8) (hl : l.length ≤ 1000000) : PureC Tryz.prog 110 [.str l, u8P c] (.int (lixB l c)) := by
  refine pure_of_aw (ys := [_]) [] [] [] mixed Tryz.func110 rfl (by kernel_rfl) (by kernel_rfl) (by simp [Tryz.ntmps110]) rfl ?_
  simp
  refine pcall_of (last146 l c hl) (by simp) ?_
  simp [Tryz.results110]
theorem cutp252 (l : List UInt8) (c : UInt8) : PureC Tryz.prog 252 [.str l, .str [c]] (.tp [.str (if l.head? = some c then l.drop 1 else l), .bool (decide (l.head? = some c))]) := by
  refine pure_of_aw (ys := [_, _]) [] [] [] mixed Tryz.func252 rfl (by kernel_rfl) (by kernel_rfl) (by simp [Tryz.ntmps252]) rfl ?_
  simp
  refine pcall_of (prefix145 l c) (by simp) ?_
  by_cases h : l.head? = some c
  · have h1 : 1 ≤ l.length := by cases l <;> simp at h ⊢
    simp [h, h1, Tryz.results252]
  · simp [h, Tryz.results252]
theorem cutp227 (l : List UInt8) (c : UInt8) : PureC Tryz.prog 227 [.str l, .str [c]] (.tp [.str (if l.head? = some c then l.drop 1 else l), .bool (decide (l.head? = some c))]) := by
  refine pure_of_aw (ys := [_, _]) [] [] [] mixed Tryz.func227 rfl (by kernel_rfl) (by kernel_rfl) (by simp [Tryz.ntmps227]) rfl ?_
  simp
  refine pcall_of (cutp252 l c) (by simp) ?_
  simp [Tryz.results227]
theorem named185 (l : List UInt8) (hl : l.length ≤ 1000000) (h : l.head? ≠ some 91) : PureC Tryz.prog 185 [.str l] (.bool (onlyU l [freeU, subsU])) := by
  refine pure_of_aw (ys := [_]) [] [] [] mixed Tryz.func185 rfl (by kernel_rfl) (by kernel_rfl) (by simp [Tryz.ntmps185]) rfl ?_
  simp
  refine pcall_of (cutp227 l 91) (by simp) ?_
  simp [h]
  refine pcall_of (only228 l [freeU, subsU] hl (by simp)) (by simp; exact ⟨rfl, rfl⟩) ?_
  simp [Tryz.results185]
theorem hexSeat (l : List UInt8) : lixB l 58 = -1 ↔ 58 ∉ l := by
  induction l with
  | nil => simp [lixB]
  | cons a l ih =>
    simp only [lixB, List.mem_cons, not_or]
    have hge : ∀ m : List UInt8, -1 ≤ lixB m 58 := by
      intro m; induction m with
      | nil => simp [lixB]
      | cons b m ihm => simp only [lixB]; split <;> (try split) <;> omega
    have := hge l
    by_cases h : 0 ≤ lixB l 58
    · have : ¬ 58 ∉ l := fun x => by have := ih.2 x; omega
      simp [h, this]; omega
    · have e : lixB l 58 = -1 := by omega
      have := ih.1 e
      by_cases ha : a = 58
      · simp [h, ha]
      · simp [h, ha, this, Ne.symm ha]
def uriP (h : List UInt8) (p : Int) (t : List UInt8) : List PC := [.str h, .int p, .str t]
theorem seat141 (l : List UInt8) (hl : l.length ≤ 1000000) (h1 : 58 ∉ l) (h2 : l.head? ≠ some 91) : PureC Tryz.prog 141 [.str l] (.tp [.agg false (uriP (lowB l) 80 []), .bool (onlyU l [freeU, subsU])]) := by
  have hx := (hexSeat l).2 h1
  refine pure_of_aw (ys := [_, _]) [] [(11, [(0, .r 1), (3, .s 2 [1])])] [(1, 1), (2, 0)] mixed Tryz.func141 rfl (by kernel_rfl) (by kernel_rfl) (by simp [Tryz.ntmps141]) rfl ?_
  simp
  refine pcall_of (last110 l 58 hl) (by simp [u8P]) ?_
  rw [hx]
  simp
  refine pcall_of (lower76 l (by omega)) (by simp) ?_
  simp
  refine call_of (named185 l hl h2) ?_
  simp [uriP, Tryz.results141]
end Go.Av

/-! part Z114 -/
namespace Go.Av
open Go.Proofs Go.RowKit
set_option maxRecDepth 100000
theorem join193_one (s p : List UInt8) : PureC Tryz.prog 193 [.sl [.str s], .str p] (.str s) := by
  refine pure_of_aw (ys := [_]) [] [] [] mixed Tryz.func193 rfl (by kernel_rfl) (by kernel_rfl) (by simp [Tryz.ntmps193]) rfl ?_
  simp [Tryz.results193]
theorem split_one (s : List UInt8) (h : 47 ∉ s) : splB 47 ((47 :: s).count 47) (47 :: s) = [[], s] := by
  have hc : (47 :: s).count 47 = 1 := by rw [List.count_cons, List.count_eq_zero.2 h]; rfl
  rw [hc]
  have hx : ixB (47 :: s) 47 = 0 := by rw [ixB_cons, if_pos rfl]
  simp [splB, hx]
set_option maxHeartbeats 1000000 in
theorem segments145_one (s : List UInt8) (hs : s.length ≤ 100000) (h : 47 ∉ s) (h1 : s ≠ [46]) (h2 : s ≠ [46, 46]) : PureC Tryz.prog 145 [.str (47 :: s)] (.str (47 :: s)) := by
  refine pure_of_aw (ys := [_]) [] [] [] mixed Tryz.func145 rfl (by kernel_rfl) (by kernel_rfl) (by simp [Tryz.ntmps145]) rfl ?_
  have hsp := split51 (47 :: s) 47 (by simp; omega)
  rw [split_one s h] at hsp
  have d1 : (s == [46]) = false := by simpa using h1
  have d2 : (s == [46, 46]) = false := by simpa using h2
  simp
  refine pcall_of hsp (by simp) ?_
  simp
  refine aw_loop (fun i : Nat => i ≤ 1) (fun i => [(4, .own 0 (if i = 0 then [] else [PC.str s])), (3, .p (.sl [PC.str s])), (11, .p (.sl [PC.str s])), (12, .p (.int 1)), (13, .p (.int i))])
    (fun i => ⟨[], [(0, 9, 1)], 1⟩) (fun i => 1 - i) 0 (by omega) _ (le_own 4 9 1 [] (.inr ⟨rfl, by simp⟩)) (leN_id (by simp)) ?_
  intro i hi
  rcases (by omega : i = 0 ∨ i = 1) with rfl | rfl
  · simp [d1, d2, wr1]
    exact ⟨1, by omega, by omega, leN_of [(0, 1)] (by simp)⟩
  · simp
    refine pcall_of (join193_one s [47]) (by simp) ?_
    simp [Tryz.results145]
    omega
theorem begins104 (l : List UInt8) (hl : l.length ≤ 1000000) : PureC Tryz.prog 104 [.str l] (.tp [.str (if lowB (l.take 7) = [104, 116, 116, 112, 58, 47, 47] then l.drop 7 else []), .bool (decide (lowB (l.take 7) = [104, 116, 116, 112, 58, 47, 47]))]) := by
  refine pure_of_aw (ys := [_, _]) [] [] [] mixed Tryz.func104 rfl (by kernel_rfl) (by kernel_rfl) (by simp [Tryz.ntmps104]) rfl ?_
  simp
  by_cases h7 : l.length < 7
  · have hne : lowB (l.take 7) ≠ [104, 116, 116, 112, 58, 47, 47] := fun e => by
      have := congrArg List.length e
      simp [lowB] at this
      omega
    have d7 : decide ((l.length : Int) < 7) = true := decide_eq_true (by omega)
    simp [d7, hne, Tryz.results104]
  · have h7' : 7 ≤ l.length := by omega
    have d7 : decide ((l.length : Int) < 7) = false := decide_eq_false (by omega)
    simp [d7, h7']
    refine pcall_of (lower76 (l.take 7) (by simp; omega)) (by simp) ?_
    by_cases e : lowB (l.take 7) = [104, 116, 116, 112, 58, 47, 47]
    · simp [e, h7', Tryz.results104]
    · have de : (lowB (l.take 7) != [104, 116, 116, 112, 58, 47, 47]) = true := by simpa using e
      simp [e, de, Tryz.results104]
theorem prefix2 (l : List UInt8) (c d : UInt8) : PureC Tryz.prog 107 [.str l, .str [c, d]] (.bool (decide (l.take 2 = [c, d]))) := by
  have h143 : PureC Tryz.prog 143 [.str l, .str [c, d]] (.bool (decide (l.take 2 = [c, d]))) := by
    refine pure_of_aw (ys := [_]) [] [] [] mixed Tryz.func143 rfl (by kernel_rfl) (by kernel_rfl) (by simp [Tryz.ntmps143]) rfl ?_
    match l with
    | [] => simp [Tryz.results143]
    | [a] => simp [Tryz.results143]
    | a :: b :: l =>
      have dd : (2 : Int) ≤ (l.length : Int) + 1 + 1 := by omega
      simp [dd, Tryz.results143]
      by_cases e1 : a = c <;> by_cases e2 : b = d <;> simp [e1, e2]
  refine pure_of_aw (ys := [_]) [] [] [] mixed Tryz.func107 rfl (by kernel_rfl) (by kernel_rfl) (by simp [Tryz.ntmps107]) rfl ?_
  simp
  refine pcall_of h143 (by simp) ?_
  simp [Tryz.results107]
end Go.Av

/-! part Z115 -/
namespace Go.Av
open Go.Proofs Go.RowKit
set_option maxRecDepth 100000
structure SegOk (s : List UInt8) : Prop where
  len : s.length ≤ 1000
  sl : 47 ∉ s
  q : 63 ∉ s
  one : s ≠ [46]
  two : s ≠ [46, 46]
  all : ∀ x ∈ s, x ≠ 37 ∧ ofU x (moreU []) = true
theorem cutB_none {l : List UInt8} {c : UInt8} (h : c ∉ l) : cutB l c = (l, [], false) := by
  unfold cutB
  rw [if_pos]
  rcases Int.lt_or_le (ixB l c) 0 with h1 | h1
  · exact h1
  · exact absurd (List.mem_of_getElem? (ixB_at l c h1)) h
theorem placed108 (h : List UInt8) (p : Int) (t s : List UInt8) (hs : SegOk s) : PureC Tryz.prog 108 [.agg false (uriP h p t), .str (47 :: s)] (.tp [.agg false (uriP h p (47 :: s)), .int 0]) := by
  refine pure_of_aw (ys := [_, _]) [2] [] [] mixed Tryz.func108 rfl (by kernel_rfl) (by kernel_rfl) (by simp [Tryz.ntmps108]) rfl ?_
  obtain ⟨h1, h2, h3, h4, h5, h6⟩ := hs
  have hc := cut100 (47 :: s) 63 (by simp; omega)
  rw [cutB_none (by simpa using h3)] at hc
  have k1 := coded144 (47 :: s) [] (by simp; omega) (by
    intro x hx
    rcases List.mem_cons.1 hx with rfl | hx
    · exact ⟨by decide, by decide⟩
    · exact h6 x hx)
  have k2 := coded144 [] [63] (by simp) (by simp)
  have nz : ((47 :: s : List UInt8) != []) = true := rfl
  simp [uriP]
  refine pcall_of hc (by simp) ?_
  simp
  refine pcall_of k1 (by simp) ?_
  simp
  refine pcall_of k2 (by simp) ?_
  simp [nz]
  refine pcall_of (segments145_one s (by omega) h2 h4 h5) (by simp) ?_
  simp [uriP, Tryz.results108]
end Go.Av

/-! part Z116 -/
namespace Go.Av
open Go.Proofs Go.RowKit
set_option maxRecDepth 100000
def uA : List PC := uriP [97] 80 [47, 120]
def tA : List UInt8 := [104, 116, 116, 112, 58, 47, 47, 97, 47, 120]
theorem segX : SegOk [120] := ⟨by decide, by decide, by decide, by decide, by decide, by decide⟩
theorem segY : SegOk [121] := ⟨by decide, by decide, by decide, by decide, by decide, by decide⟩
theorem parseA : PureC Tryz.prog 105 [.str tA] (.tp [.agg false uA, .int 0]) := by
  refine pure_of_aw (ys := [_, _]) [] [(17, [(0, .r 1), (7, .s 2 [1])])] [(1, 1), (2, 0)] mixed Tryz.func105 rfl (by kernel_rfl) (by kernel_rfl) (by simp [Tryz.ntmps105]) rfl ?_
  have hb := begins104 tA (by decide)
  rw [if_pos (by decide), decide_eq_true (show lowB (tA.take 7) = [104, 116, 116, 112, 58, 47, 47] by decide)] at hb
  have hs := seat141 [97] (by decide) (by decide) (by decide)
  have e1 : onlyU [97] [freeU, subsU] = true := by decide
  have e2 : lowB [97] = [97] := by decide
  rw [e1, e2] at hs
  have i1 := sindex93 [97, 47, 120] 47
  have i2 := sindex93 [97, 47, 120] 63
  rw [show ixB [97, 47, 120] 47 = 1 by decide] at i1
  rw [show ixB [97, 47, 120] 63 = -1 by decide] at i2
  have hp := placed108 [97] 80 [] [120] segX
  have dt : tA.drop 7 = [97, 47, 120] := rfl
  rw [dt] at hb
  simp [tA]
  refine pcall_of hb (by simp [tA]) ?_
  simp
  refine aw_loop (fun i : Nat => i ≤ 2) (fun i => [(2, .obj 0 0), (3, .p (.int 0)), (4, .p (.str [97, 47, 120])), (6, .p (.int (if i = 0 then 3 else 1))), (25, .p (.sl [u8P 47, u8P 63])), (26, .p (.int 2)), (27, .p (.int i))])
    (fun _ => ⟨[(0, ⟨54, 3, [.p (.str []), .p (.int 0), .p (.str [])]⟩)], [], 1⟩) (fun i => 2 - i) 0 (by omega) _ (AS.le_refl _ _) (leN_id (by simp [u8P])) ?_
  intro i hi
  rcases (by omega : i = 0 ∨ i = 1 ∨ i = 2) with rfl | rfl | rfl
  · simp [u8P]
    refine pcall_of i1 (by simp) ?_
    simp [wr1]
    exact ⟨1, by omega, by omega, leN_id (by simp [u8P])⟩
  · simp [u8P]
    refine pcall_of i2 (by simp) ?_
    simp [wr2]
    exact ⟨2, by omega, by omega, leN_id (by simp [u8P])⟩
  · simp
    refine pcall_of hs (by simp) ?_
    simp [uriP]
    refine call_of hp ?_
    simp [uA, uriP, Tryz.results105]
theorem print140 (h t : List UInt8) (h1 : h.length ≤ 100000) (h2 : t.length ≤ 100000) : PureC Tryz.prog 140 [.agg false (uriP h 80 t)] (.str ([104, 116, 116, 112, 58, 47, 47] ++ h ++ t)) := by
  refine pure_of_aw (ys := [_]) [] [] [] mixed Tryz.func140 rfl (by kernel_rfl) (by kernel_rfl) (by simp [Tryz.ntmps140]) rfl ?_
  simp [uriP, Tryz.results140]
  omega
theorem rightA : PureC Tryz.prog 103 [.agg false uA] (.bool true) := by
  refine pure_of_aw (ys := [_]) [] [] [] mixed Tryz.func103 rfl (by kernel_rfl) (by kernel_rfl) (by simp [Tryz.ntmps103]) rfl ?_
  have h1 := print140 [97] [47, 120] (by decide) (by decide)
  simp [uA, uriP]
  refine pcall_of h1 (by simp [uriP]) ?_
  simp
  refine pcall_of parseA (by simp [tA]) ?_
  simp [uA, uriP, Tryz.results103]
theorem resolveN : PureC Tryz.prog 71 [.agg false uA, .str []] (.tp [.agg false uA, .int 0]) := by
  refine pure_of_aw (ys := [_, _]) [] [] [] mixed Tryz.func71 rfl (by kernel_rfl) (by kernel_rfl) (by simp [Tryz.ntmps71]) rfl ?_
  simp [uA, uriP]
  refine pcall_of rightA (by simp [uA, uriP]) ?_
  simp [uA, uriP, Tryz.results71]
def uY : List PC := uriP [97] 80 [47, 121]
theorem resolveY : PureC Tryz.prog 71 [.agg false uA, .str [47, 121]] (.tp [.agg false uY, .int 0]) := by
  refine pure_of_aw (ys := [_, _]) [] [] [] mixed Tryz.func71 rfl (by kernel_rfl) (by kernel_rfl) (by simp [Tryz.ntmps71]) rfl ?_
  have hb := begins104 [47, 121] (by decide)
  rw [if_neg (by decide), decide_eq_false (show ¬ lowB (([47, 121] : List UInt8).take 7) = [104, 116, 116, 112, 58, 47, 47] by decide)] at hb
  have hc := cut100 [47, 120] 63 (by decide)
  rw [cutB_none (by decide)] at hc
  have hp2 := prefix2 [47, 121] 47 47
  rw [decide_eq_false (show ¬ ([47, 121] : List UInt8).take 2 = [47, 47] by decide)] at hp2
  have hp := placed108 [97] 80 [47, 120] [121] segY
  simp [uA, uriP]
  refine pcall_of rightA (by simp [uA, uriP]) ?_
  simp
  refine pcall_of hb (by simp) ?_
  simp [uA, uriP]
  refine pcall_of hc (by simp) ?_
  simp
  refine pcall_of hp2 (by simp) ?_
  simp
  refine pcall_of hp (by simp [uriP]) ?_
  simp [uY, uriP, Tryz.results71]
end Go.Av
