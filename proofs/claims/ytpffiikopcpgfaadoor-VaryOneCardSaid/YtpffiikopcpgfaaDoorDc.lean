/- What strings.Trim of blanks, octet.Value, Lower, number, and the document's answers compute, for every text. -/
import Derived.Test.YtpffiikopcpgfaaDoorDb
import Derived.Test.YtpffiikopcpgfaaDoorProg
import Derived.Shelf.Lays
import Derived.Shelf.Strings.AsciiSet
import Derived.Shelf.Strings.IndexAnyAll
set_option linter.all false
/-! part Q15 -/
namespace Go.Av
open Go.Proofs

/-- the reference's reading of a request's line -/
def rreqS (n : Int) (s : List UInt8) : StV × Int × Int :=
  if spI s = s.length then (st0, 0, 10) else
  let t := s.drop (spI s + 1)
  if spI t = t.length then (st0, 0, 10) else
  match minB (t.drop (spI t + 1)) with
  | none => (st0, 0, 10)
  | some k => if tkB (s.take (spI s)) = true ∧ visB (t.take (spI t)) = true then
      (if (s.take (spI s)).length ≤ 32 ∧ (t.take (spI t)).length ≤ 8000 then (⟨s.take (spI s), t.take (spI t), 0, [], k⟩, n, 0) else (st0, 0, 12)) else (st0, 0, 10)
theorem spI_le (l : List UInt8) : spI l ≤ l.length := by
  unfold spI; exact (List.takeWhile_sublist _).length_le
theorem ixB_ge (l : List UInt8) (c : UInt8) : -1 ≤ ixB l c := by
  unfold ixB
  induction l with
  | nil => simp [Go.Lib.indexByte]
  | cons b l ih =>
    unfold Go.Lib.indexByte
    split
    · omega
    · split <;> omega
theorem sp_cases (l : List UInt8) : (spI l = l.length ∧ l.count 32 = 0 ∧ ixB l 32 = -1) ∨ (spI l < l.length ∧ ixB l 32 = spI l ∧ l.count 32 = (l.drop (spI l + 1)).count 32 + 1 ∧ (l.take (spI l)).count 32 = 0) := by
  induction l with
  | nil => left; exact ⟨rfl, rfl, rfl⟩
  | cons a l ih =>
    by_cases h : a = 32
    · subst h
      right
      have e : spI ((32 : UInt8) :: l) = 0 := rfl
      rw [e]
      refine ⟨by simp, ?_, by simp, by simp⟩
      simp [ixB, Go.Lib.indexByte]
    · have e : spI (a :: l) = spI l + 1 := by
        unfold spI
        rw [List.takeWhile_cons]
        simp [h]
      have hc : (a :: l).count 32 = l.count 32 := by rw [List.count_cons]; simp [h]
      have hx : ixB (a :: l) 32 = if ixB l 32 < 0 then -1 else ixB l 32 + 1 := by
        have e1 : -1 ≤ Go.Lib.indexByte l 32 := ixB_ge l 32
        simp [ixB, Go.Lib.indexByte, h]
        by_cases hz : Go.Lib.indexByte l 32 = -1
        · simp [hz]
        · rw [if_neg hz, if_neg (by omega)]
      rw [e, hc, hx]
      rcases ih with ⟨h1, h2, h3⟩ | ⟨h1, h2, h3, h4⟩
      · left
        exact ⟨by simp [h1], h2, by rw [h3]; rfl⟩
      · right
        refine ⟨by simp; exact h1, ?_, by simpa using h3, ?_⟩
        · rw [h2, if_neg (by omega)]; simp
        · rw [List.take_succ_cons, List.count_cons]; simp [h, h4]
theorem minB_no {l : List UInt8} (h : l.count 32 ≠ 0) : minB l = none := by
  unfold minB
  rw [if_neg (by rintro rfl; exact h (by decide)), if_neg (by rintro rfl; exact h (by decide))]
theorem splB_len1 (c : UInt8) (k : Nat) (l : List UInt8) : 1 ≤ (splB c k l).length := by
  cases k with
  | zero => simp [splB]
  | succ k => unfold splB; split <;> simp
theorem req_same (n : Int) (s : List UInt8) : reqP n (splB 32 (s.count 32) s) = rreqS n s := by
  unfold rreqS
  rcases sp_cases s with ⟨h1, h2, h3⟩ | ⟨h1, h2, h3, h4⟩
  · rw [if_pos h1, h2]; rfl
  rw [if_neg (by omega), h3]
  unfold splB
  rw [h2, if_neg (by omega)]
  simp only [Int.toNat_natCast]
  generalize s.take (spI s) = a
  generalize s.drop (spI s + 1) = t
  rcases sp_cases t with ⟨k1, k2, k3⟩ | ⟨k1, k2, k3, k4⟩
  · rw [if_pos k1, k2]; rfl
  rw [if_neg (by omega), k3]
  unfold splB
  rw [k2, if_neg (by omega)]
  simp only [Int.toNat_natCast]
  generalize t.take (spI t) = b
  generalize t.drop (spI t + 1) = u
  by_cases hu : u.count 32 = 0
  · rw [hu]
    simp only [splB, reqP]
    cases minB u with
    | none => simp
    | some k => rfl
  · rw [minB_no hu]
    obtain ⟨m, hm⟩ : ∃ m, u.count 32 = m + 1 := ⟨u.count 32 - 1, by omega⟩
    rw [hm]
    unfold splB
    rcases sp_cases u with ⟨q1, q2, q3⟩ | ⟨q1, q2, q3, q4⟩
    · omega
    rw [q2, if_neg (by omega)]
    have := splB_len1 32 m (u.drop ((spI u : Int).toNat + 1))
    generalize splB 32 m (u.drop ((spI u : Int).toNat + 1)) = z at *
    match z, this with
    | y :: z, _ => rfl
end Go.Av

/-! part TrydShelf -/
namespace Go.Proofs
open Go.Shelf
def Tryd.lays227_ren : Go.Shelf.Ren := ⟨fun | 227 => 140 | n => n, fun | 9 => 9 | 116 => 149 | 4 => 4 | 0 => 0 | 3 => 3 | 5 => 5 | n => n, fun | n => n⟩
theorem Tryd.lays227 : Go.Proofs.Lays.n227 Tryd.prog Tryd.lays227_ren := {
  mixed := by kernel_rfl
  f227 := Tryd.func140.trans (congrArg some (by kernel_rfl))
  t0 := Tryd.underlying0
  a0 := Tryd.isAgg0
  z0 := Tryd.sizeOf0
  v0 := Tryd.zeroValue0
  t3 := Tryd.underlying3
  a3 := Tryd.isAgg3
  z3 := Tryd.sizeOf3
  v3 := Tryd.zeroValue3
  t4 := Tryd.underlying4
  a4 := Tryd.isAgg4
  z4 := Tryd.sizeOf4
  v4 := Tryd.zeroValue4
  t5 := Tryd.underlying5
  a5 := Tryd.isAgg5
  z5 := Tryd.sizeOf5
  v5 := Tryd.zeroValue5
  t9 := Tryd.underlying9
  a9 := Tryd.isAgg9
  z9 := Tryd.sizeOf9
  v9 := Tryd.zeroValue9
  t116 := Tryd.underlying149
  a116 := Tryd.isAgg149
  z116 := Tryd.sizeOf149 }
def Tryd.lays228_ren : Go.Shelf.Ren := ⟨fun | 228 => 157 | n => n, fun | 124 => 153 | 5 => 5 | 4 => 4 | 0 => 0 | 116 => 149 | n => n, fun | n => n⟩
theorem Tryd.lays228 : Go.Proofs.Lays.n228 Tryd.prog Tryd.lays228_ren := {
  mixed := by kernel_rfl
  f228 := Tryd.func157.trans (congrArg some (by kernel_rfl))
  t0 := Tryd.underlying0
  a0 := Tryd.isAgg0
  z0 := Tryd.sizeOf0
  v0 := Tryd.zeroValue0
  t4 := Tryd.underlying4
  a4 := Tryd.isAgg4
  z4 := Tryd.sizeOf4
  v4 := Tryd.zeroValue4
  t5 := Tryd.underlying5
  a5 := Tryd.isAgg5
  z5 := Tryd.sizeOf5
  v5 := Tryd.zeroValue5
  t116 := Tryd.underlying149
  a116 := Tryd.isAgg149
  z116 := Tryd.sizeOf149
  t124 := Tryd.underlying153
  a124 := Tryd.isAgg153
  z124 := Tryd.sizeOf153
  v124 := Tryd.zeroValue153 }
end Go.Proofs

/-! part Q16 -/
namespace Go.Av
open Go.Proofs Go.Shelf Go.RowKit

/-- the set of blanks, as an array -/
def setP : List PC := (List.range 256).map fun c => .sc (.bool (decide (c = 32 ∨ c = 9)))
theorem set_cells : (Lib.setCells [32, 9]).toList = (List.range 256).map fun c => Value.bool (decide (c = 32 ∨ c = 9)) := by kernel_rfl
theorem holds_below {M : Mem} {w w' : World} (h : Holds w M) (hB : Below w.heap.size w w') : Holds w' M := fun b o v e => by
  have hlt := h.lt e
  rw [hB.cell (p := ⟨b, o, none⟩) hlt]; exact h b o v e
theorem reps_bools {M : Mem} (f : Nat → Bool) : ∀ l : List Nat, Reps M (l.map fun c => Value.bool (f c)) (l.map fun c => PC.sc (.bool (f c)))
  | [] => .nil
  | a :: l => .cons (.sc _ rfl) (reps_bools f l)
theorem reps_bools_inv {M : Mem} (f : Nat → Bool) : ∀ {l : List Nat} {us : List Value}, Reps M us (l.map fun c => PC.sc (.bool (f c))) → us = l.map fun c => Value.bool (f c)
  | [], _, .nil => rfl
  | a :: l, _, .cons h hs => by
    cases h
    rw [reps_bools_inv f hs]; rfl
set_option maxRecDepth 100000 in
theorem makeSet140 : PureC Tryd.prog 140 [.str [32, 9]] (.tp [.agg false setP, .bool true]) := by
  refine ⟨⟨_, Tryd.func140, by kernel_rfl, by kernel_rfl⟩, fun M w vs hH hr => ?_⟩
  cases hr with
  | cons h hs =>
    cases hs
    cases h
    have hi : (Tryd.prog.info? (Tryd.lays227_ren.t 116)).map (fun i => (i.zero, i.size)) = some (some (.agg (Array.replicate 256 (.bool false))), 256) := by kernel_rfl
    refine (Any.strings_makeASCIISet Tryd.lays227 (zero_of_info hi).1 (zero_of_info hi).2 ⟨#[32, 9]⟩ w (by decide) (fun j b e => ?_)).mono fun e w' ⟨h1, h2⟩ => ?_
    · match j, e with
      | 0, e => cases e; decide
      | 1, e => cases e; decide
      | j + 2, e => cases e
    · have hB : Below w.heap.size w w' := by rw [h2]; exact (Below.refl _ _).alloc (Nat.le_refl _) _
      refine ⟨_, M, h1, ?_, holds_below hH hB, Mem.le_refl _, fun _ _ => rfl, hB⟩
      have e1 : (Value.agg (Lib.setCells (ByteArray.mk #[32, 9]).data.toList)) = .agg ((List.range 256).map fun c => Value.bool (decide (c = 32 ∨ c = 9))).toArray := by
        exact congrArg Value.agg (Array.ext' (set_cells.trans List.toList_toArray.symm))
      rw [e1]
      refine Rep.tup (vs := [_, _]) (.cons (.agg (reps_bools _ _) ?_) (.cons (.sc _ rfl) .nil))
      intro v hv
      obtain ⟨c, _, rfl⟩ := List.mem_map.1 hv
      rfl

set_option maxHeartbeats 1000000 in
theorem contains_any (b off : Nat) (x : UInt8) (v : Bool) (w : World) (hc : w.cell? ⟨b, off + x.toNat, none⟩ = some (.bool v)) :
    Calls Tryd.prog 157 #[.pointer (some ⟨b, off, none⟩), .int .u8 x.toNat] w fun e w' => e = .returned (.bool v) ∧ w' = w := by
  have hx256 : (x.toNat : Int) < 256 := by have := UInt8.toNat_lt x; omega
  go_enter Tryd.func157, Tryd.ntmps157
  go_wp2
  go_ret
  exact ⟨rfl, rfl⟩
def blO (c : UInt8) : Bool := decide (c.toNat = 32 ∨ c.toNat = 9)
theorem contains157 (x : UInt8) : PureC Tryd.prog 157 [.ref (.agg false setP), u8P x] (.bool (blO x)) := by
  refine ⟨⟨_, Tryd.func157, by kernel_rfl, by kernel_rfl⟩, fun M w vs hH hr => ?_⟩
  cases hr with
  | cons h hs =>
    cases hs with
    | cons h2 hs =>
    cases hs
    cases h2
    cases h with
    | ref hat h =>
      rename_i b off u
      have hx := UInt8.toNat_lt x
      have hcell : w.cell? ⟨b, off + x.toNat, none⟩ = some (.bool (blO x)) := by
        refine hH _ _ _ (hat x.toNat _ ?_)
        cases h with
        | agg hs h1 =>
          rename_i us
          have e : us = (List.range 256).map fun c => Value.bool (decide (c = 32 ∨ c = 9)) := reps_bools_inv _ hs
          subst e
          show ((List.range 256).map fun c => Value.bool (decide (c = 32 ∨ c = 9)))[x.toNat]? = some (.bool (blO x))
          rw [List.getElem?_map, List.getElem?_range hx]; rfl
      refine (contains_any b off x _ w hcell).mono fun e w' ⟨h1, h2⟩ => ?_
      subst h2
      exact ⟨_, M, h1, .sc _ rfl, hH, Mem.le_refl _, fun _ _ => rfl, Below.refl _ _⟩
theorem blO_eq (x : UInt8) : blO x = (x == 32 || x == 9) := by
  have e1 : (x == 32) = decide (x.toNat = 32) := by
    rw [Bool.eq_iff_iff]; simp only [beq_iff_eq, decide_eq_true_eq]
    exact ⟨fun h => by rw [h]; rfl, fun h => UInt8.toNat_inj.1 h⟩
  have e2 : (x == 9) = decide (x.toNat = 9) := by
    rw [Bool.eq_iff_iff]; simp only [beq_iff_eq, decide_eq_true_eq]
    exact ⟨fun h => by rw [h]; rfl, fun h => UInt8.toNat_inj.1 h⟩
  rw [e1, e2]; unfold blO; simp

/-- a text without blanks ahead; behind -/
def trimL (l : List UInt8) : List UInt8 := l.dropWhile blO
def trimR (l : List UInt8) : List UInt8 := (l.reverse.dropWhile blO).reverse
def trimB (l : List UInt8) : List UInt8 := trimL (trimR l)
theorem trimR_snoc (l : List UInt8) (a : UInt8) : trimR (l ++ [a]) = if blO a = true then trimR l else l ++ [a] := by
  unfold trimR
  rw [List.reverse_append, List.reverse_singleton, List.singleton_append, List.dropWhile_cons]
  split
  · rfl
  · simp
theorem trimR_le (l : List UInt8) : (trimR l).length ≤ l.length := by
  unfold trimR
  rw [List.length_reverse]
  have := (List.dropWhile_sublist (l := l.reverse) blO).length_le
  simpa using this
theorem trimL_le (l : List UInt8) : (trimL l).length ≤ l.length := (List.dropWhile_sublist blO).length_le
theorem trimL141 (l : List UInt8) (hl : l.length ≤ 1000000000) : PureC Tryd.prog 141 [.str l, .ref (.agg false setP)] (.str (trimL l)) := by
  refine pure_of_aw (ys := [_]) [] [] [] mixed Tryd.func141 rfl (by kernel_rfl) (by kernel_rfl) (by simp [Tryd.ntmps141]) rfl ?_
  simp
  refine aw_loop0 (fun s : List UInt8 => s.length ≤ l.length ∧ trimL l = trimL s) (fun s => [(0, .p (.str s)), (1, .p (.ref (.agg false setP)))]) (fun s => s.length) l (by simp) (leN_id (by simp)) ?_
  rintro s ⟨h1, h2⟩
  cases s with
  | nil => rw [h2]; simp [Tryd.results141, trimL]
  | cons a s =>
    rw [h2]
    have hd : (0 : Int) < ((s.length : Int) + 1) := by omega
    simp [hd]
    refine pcall_of (contains157 a) (by simp) ?_
    unfold trimL
    rw [List.dropWhile_cons]
    cases hb : blO a with
    | false => simp [Tryd.results141]
    | true =>
      simp
      refine ⟨s, ⟨by simp at h1; omega, ?_⟩, by simp, leN_id ?_⟩
      · first | rfl | simp
      · simp
end Go.Av

/-! part Q17 -/
namespace Go.Av
open Go.Proofs

theorem trimR142 (l : List UInt8) (hl : l.length ≤ 1000000000) : PureC Tryd.prog 142 [.str l, .ref (.agg false setP)] (.str (trimR l)) := by
  refine pure_of_aw (ys := [_]) [] [] [] mixed Tryd.func142 rfl (by kernel_rfl) (by kernel_rfl) (by simp [Tryd.ntmps142]) rfl ?_
  simp
  obtain ⟨r, hr⟩ : ∃ r, r = trimR l := ⟨_, rfl⟩
  rw [← hr]
  refine aw_loop0 (fun k : Nat => k ≤ l.length ∧ r = trimR (l.take k)) (fun k => [(0, .p (.str (l.take k))), (1, .p (.ref (.agg false setP)))]) (fun k => k) l.length (by simp [hr]) (leN_id (by simp)) ?_
  rintro k ⟨h1, h2⟩
  have hm : min k l.length = k := Nat.min_eq_left h1
  cases k with
  | zero => rw [h2]; simp [Tryd.results142, trimR]
  | succ k =>
    have hk : k < l.length := by omega
    have hd : (0 : Int) < ((k : Int) + 1) := by omega
    have w1 : IntKind.i64.wrap (k : Int) = (k : Int) := wrap64_id (by omega) (by omega)
    have hsp : l.take (k + 1) = l.take k ++ [l[k]] := List.take_succ_eq_append_getElem hk
    have hb := trimR_snoc (l.take k) l[k]
    rw [← hsp, ← h2] at hb
    simp [hm, hd, w1, hk]
    refine pcall_of (contains157 l[k]) (by simp) ?_
    cases hz : blO l[k] with
    | false =>
      rw [hz] at hb
      simp at hb
      simp [hb, Tryd.results142]
    | true =>
      rw [hz] at hb
      simp at hb
      simp [hm, w1, hk]
      refine ⟨k, ⟨by omega, hb⟩, by omega, leN_id ?_⟩
      simp [List.take_take]
      try omega
theorem bor_p {bx : List (Nat × Ob)} {k : Nat} (x : PC) : borF bx (k + 1) (.p x) x := by
  unfold borF; exact ⟨x, rfl, .inl rfl⟩
theorem bor_ps {bx : List (Nat × Ob)} {k : Nat} : ∀ l : List PC, all2 (borF bx (k + 1)) (l.map .p) l
  | [] => trivial
  | x :: l => ⟨bor_p x, bor_ps l⟩
theorem setP_len : setP.length = 256 := by simp [setP]
theorem pcCells_set : pcCells (.agg false setP) = setP.map .p := rfl
def f256 : List PC := List.replicate 256 (.sc (.bool false))
theorem f256_len : f256.length = 256 := List.length_replicate
theorem zeroC149 : zeroC Tryd.prog 149 = some f256 := by kernel_rfl
theorem drop_f256 : (f256.map AV.p).drop 256 = [] := List.drop_of_length_le (by rw [List.length_map, f256_len]; exact Nat.le_refl _)
theorem trim115 (l : List UInt8) (hl : l.length ≤ 1000000000) : PureC Tryd.prog 115 [.str l, .str [32, 9]] (.str (trimB l)) := by
  refine pure_of_aw (ys := [_]) [] [] [] mixed Tryd.func115 rfl (by kernel_rfl) (by kernel_rfl) (by simp [Tryd.ntmps115]) rfl ?_
  by_cases h : l = []
  · subst h; simp [Tryd.results115, trimB, trimR, trimL]
  · have hd : (l == []) = false := by simpa using h
    simp [h, hd]
    refine pcall_of makeSet140 (by simp) ?_
    simp [zeroC149, f256_len, setP_len, pcCells_set, drop_f256]
    have bo : ∀ k : Nat, borF [(0, ({ el := 149, sz := 256, xs := setP.map AV.p } : Ob))] (k + 2) (.obj 0 0) (.ref (.agg false setP)) := fun k => by
      refine ⟨_, rfl, by simp, ?_⟩
      simp only [List.drop_zero, List.length_map]
      have e : (setP.map AV.p).take setP.length = setP.map AV.p := List.take_of_length_le (by simp)
      rw [e]
      exact bor_ps _
    refine bcall_of0 (trimR142 l hl) ⟨bor_p _, bo _, trivial⟩ rfl ?_
    simp
    refine bcall_of0 (trimL141 (trimR l) (Nat.le_trans (trimR_le l) hl)) ⟨bor_p _, bo _, trivial⟩ rfl ?_
    simp [trimB, Tryd.results115]
theorem trim96 (l : List UInt8) (hl : l.length ≤ 1000000000) : PureC Tryd.prog 96 [.str l] (.str (trimB l)) := by
  refine pure_of_aw (ys := [_]) [] [] [] mixed Tryd.func96 rfl (by kernel_rfl) (by kernel_rfl) (by simp [Tryd.ntmps96]) rfl ?_
  simp
  refine pcall_of (trim115 l hl) (by simp) ?_
  simp [Tryd.results96]
def valB (l : List UInt8) : Bool := l.all plnB && (trimB l == l)
theorem value61 (l : List UInt8) (hl : l.length ≤ 1000000000) : PureC Tryd.prog 61 [.str l] (.bool (valB l)) := by
  refine pure_of_aw (ys := [_]) [] [] [] mixed Tryd.func61 rfl (by kernel_rfl) (by kernel_rfl) (by simp [Tryd.ntmps61]) rfl ?_
  simp
  refine pcall_of (all90 plnB l hl plain95) (by simp) ?_
  unfold valB
  cases l.all plnB with
  | false => simp [Tryd.results61]
  | true =>
    simp
    refine pcall_of (trim96 l hl) (by simp) ?_
    simp [Tryd.results61]
end Go.Av

/-! part Q18 -/
namespace Go.Av
open Go.Proofs

def lowO (c : UInt8) : UInt8 := if 65 ≤ c.toNat ∧ c.toNat ≤ 90 then c + 32 else c
def lowB (l : List UInt8) : List UInt8 := l.map lowO
abbrev rowByt (l : List UInt8) : Ob := ⟨1000005, 1, (bytesPC l).map .p⟩
def lowM (l : List UInt8) (k : Nat) : List UInt8 := (l.take k).map lowO ++ l.drop k
theorem wrapU8_id {n : Int} (h0 : 0 ≤ n) (h1 : n ≤ 255) : IntKind.u8.wrap n = n := by
  have e1 : IntKind.u8.bits = 8 := rfl
  simp [IntKind.wrap, e1]
  try (have e2 : IntKind.u8.signed = false := rfl)
  try simp [e2]
  omega
theorem lowM_len (l : List UInt8) (k : Nat) : (lowM l k).length = l.length := by simp [lowM]; omega
theorem lowM_at (l : List UInt8) (k : Nat) (h : k < l.length) : (lowM l k)[k]? = some l[k] := by
  unfold lowM
  rw [List.getElem?_append_right (by simp; omega)]
  simp [Nat.min_eq_left (Nat.le_of_lt h), h]
theorem lowM_set (l : List UInt8) (k : Nat) (h : k < l.length) : (lowM l k).set k (lowO l[k]) = lowM l (k + 1) := by
  unfold lowM
  rw [List.set_append_right _ _ (by simp; omega)]
  have e : ((l.take k).map lowO).length = k := by simp; omega
  rw [e, Nat.sub_self, List.drop_eq_getElem_cons h, List.set_cons_zero, List.take_succ_eq_append_getElem h, List.map_append, List.append_assoc]
  rfl
theorem lowO_nat (c : UInt8) (h1 : 65 ≤ c.toNat) (h2 : c.toNat ≤ 90) : (lowO c).toNat = c.toNat + 32 := by
  unfold lowO
  rw [if_pos ⟨h1, h2⟩, UInt8.toNat_add]
  have : (32 : UInt8).toNat = 32 := rfl
  rw [this]; omega
/-- a row's beginning, lent -/
theorem bor_byt {bx : List (Nat × Ob)} {k id n : Nat} {c : Option Nat} {L M : List UInt8} (hn : n = L.length) (h : lk id bx = some (rowByt (L ++ M))) : borF bx (k + 1) (.view id 0 n 1 c) (.sl (bytesPC L)) := by
  refine ⟨_, h, by omega, by simp [hn], by simp [hn], ?_, ?_, ?_⟩
  · rw [flat_pcs, flat_one (fun x hx => by simp only [bytesPC, List.mem_map] at hx; obtain ⟨_, _, rfl⟩ := hx; rfl)]
    subst hn
    simp [bytesPC]
    try (rw [List.take_append_of_le_length (by simp)]; exact List.take_of_length_le (by simp))
  · intro y hy; simp only [bytesPC, List.mem_map] at hy; obtain ⟨e, _, rfl⟩ := hy; rfl
  · intro y hy; simp only [bytesPC, List.mem_map] at hy; obtain ⟨e, _, rfl⟩ := hy; rfl
set_option maxHeartbeats 1000000 in
theorem lower76 (l : List UInt8) (hl : l.length ≤ 1000000000) : PureC Tryd.prog 76 [.str l] (.str (lowB l)) := by
  refine pure_of_aw (ys := [_]) [7] [] [] mixed Tryd.func76 rfl (by kernel_rfl) (by kernel_rfl) (by simp [Tryd.ntmps76]) rfl ?_
  simp
  refine ⟨by omega, ?_⟩
  refine aw_loop (fun k : Nat => k ≤ l.length) (fun k => [(3, .view 0 0 l.length 1 none), (8, .view 0 0 l.length 1 none), (9, .p (.int l.length)), (10, .p (.int k))])
    (fun k => ⟨[(0, rowByt (lowM l k))], [], 1⟩) (fun k => l.length - k) 0 (by simp) _ (AS.le_refl _ _) (leN_id (by simp [lowM])) ?_
  rintro k h1
  have hlen := lowM_len l k
  by_cases c : k < l.length
  · have hat := lowM_at l k c
    have hg : (lowM l k)[k]'(by omega) = l[k] := by
      have := List.getElem?_eq_getElem (l := lowM l k) (i := k) (by omega)
      rw [hat] at this; injection this with this; exact this.symm
    have hs := lowM_set l k c
    have hrow : ∀ v : UInt8, ((bytesPC (lowM l k)).map AV.p).take k ++ AV.p (u8P v) :: ((bytesPC (lowM l k)).map AV.p).drop (k + 1) = (bytesPC ((lowM l k).set k v)).map AV.p := fun v => by
      rw [← List.map_take, ← List.map_drop]
      simp only [bytesPC, ← List.map_take, ← List.map_drop]
      rw [List.set_eq_take_append_cons_drop, if_pos (by omega)]
      simp
    have hsame : lowO l[k] = l[k] → lowM l (k + 1) = lowM l k := fun e => by
      rw [← hs, e, ← hg]; exact List.set_getElem_self _
    by_cases a1 : 65 ≤ l[k].toNat
    · have b1 : (65 : Int) ≤ (l[k].toNat : Int) := by omega
      by_cases a2 : l[k].toNat ≤ 90
      · have b2 : (l[k].toNat : Int) ≤ 90 := by omega
        have w1 : IntKind.u8.wrap ((l[k].toNat : Int) + 97) = (l[k].toNat : Int) + 97 := wrapU8_id (by omega) (by omega)
        have w2 : IntKind.u8.wrap ((l[k].toNat : Int) + 97 - 65) = ((lowO l[k]).toNat : Int) := by
          rw [wrapU8_id (by omega) (by omega), lowO_nat _ a1 a2]; omega
        simp [c, hlen, hg, a1, b1, a2, b2, w1, w2]
        refine ⟨by omega, k + 1, by omega, by omega, leN_id ?_⟩
        simp [wrap64_id (n := (k : Int) + 1) (by omega) (by omega)]
        rw [← hs]
        have hr := hrow (lowO l[k])
        unfold u8P at hr
        rw [hr]
        exact List.prefix_refl _
      · have b2 : ¬ (l[k].toNat : Int) ≤ 90 := by omega
        have hl' : lowO l[k] = l[k] := by unfold lowO; rw [if_neg (by omega)]
        simp [c, hlen, hg, a1, b1, a2, b2]
        refine ⟨k + 1, by omega, by omega, leN_id ?_⟩
        simp [wrap64_id (n := (k : Int) + 1) (by omega) (by omega), hsame hl']
    · have b1 : ¬ (65 : Int) ≤ (l[k].toNat : Int) := by omega
      have hl' : lowO l[k] = l[k] := by unfold lowO; rw [if_neg (by omega)]
      simp [c, hlen, hg, a1, b1]
      refine ⟨k + 1, by omega, by omega, leN_id ?_⟩
      simp [wrap64_id (n := (k : Int) + 1) (by omega) (by omega), hsame hl']
  · obtain rfl : k = l.length := by omega
    simp
    have hM : lowM l l.length = lowB l := by simp [lowM, lowB]
    refine cv_of (lowB l) (by simp) (by simp) ?_ ?_
    · rw [hM]
      exact bor_byt (M := []) (by simp [lowB]) (by simp [lk])
    · simp [Tryd.results76]
end Go.Av

/-! part Q19 -/
namespace Go.Av
open Go.Proofs

def dig (c : UInt8) : Bool := decide (48 ≤ c.toNat) && decide (c.toNat ≤ 57)
def numS (most : Nat) (st : Nat × Bool) (c : UInt8) : Nat × Bool :=
  if st.2 = true ∨ (most - (c.toNat - 48)) / 10 < st.1 then (st.1, true) else (st.1 * 10 + (c.toNat - 48), false)
def numF (most : Nat) (l : List UInt8) : Nat × Bool := l.foldl (numS most) (0, false)
def numB (most : Nat) (l : List UInt8) : Int × Int := if l = [] ∨ l.all dig = false then (0, 10) else if (numF most l).2 = true then (0, 12) else ((numF most l).1, 0)
def dg10 : List UInt8 := [48, 49, 50, 51, 52, 53, 54, 55, 56, 57]
theorem all256 {p : UInt8 → Bool} (h : ((List.range 256).all fun n => p (UInt8.ofNat n)) = true) (c : UInt8) : p c = true := by
  have := List.all_eq_true.1 h c.toNat (List.mem_range.2 (UInt8.toNat_lt c))
  simpa using this
theorem dg10_ix (c : UInt8) : ixB dg10 (lowO c) = if dig c = true then (c.toNat : Int) - 48 else -1 := by
  have := all256 (p := fun c => decide (ixB dg10 (lowO c) = if dig c = true then (c.toNat : Int) - 48 else -1)) (by kernel_rfl) c
  simpa using this
theorem numF_snoc (most : Nat) (l : List UInt8) (k : Nat) (h : k < l.length) : numF most (l.take (k + 1)) = numS most (numF most (l.take k)) l[k] := by
  unfold numF; rw [List.take_succ_eq_append_getElem h, List.foldl_append]; rfl
theorem numS_le {most : Nat} {st : Nat × Bool} {c : UInt8} (h : st.1 ≤ most) (hc : dig c = true) (hm : 9 ≤ most) : (numS most st c).1 ≤ most := by
  unfold dig at hc; simp at hc
  unfold numS; split
  · exact h
  · rename_i hh
    simp at hh ⊢
    omega
theorem numF_le {most : Nat} {l : List UInt8} (h : l.all dig = true) (hm : 9 ≤ most) : (numF most l).1 ≤ most := by
  unfold numF
  have : ∀ (l : List UInt8) (st : Nat × Bool), l.all dig = true → st.1 ≤ most → (l.foldl (numS most) st).1 ≤ most := by
    intro l
    induction l with
    | nil => intro st _ h; exact h
    | cons a l ih =>
      intro st h1 h2
      simp only [List.all_cons, Bool.and_eq_true] at h1
      exact ih _ h1.2 (numS_le h2 h1.1 hm)
  exact this l _ h (by simp)
set_option maxHeartbeats 1000000 in
theorem number94 (l : List UInt8) (most : Nat) (hl : l.length ≤ 1000000000) (hm : 9 ≤ most) (hm2 : most ≤ 1000000000000) : PureC Tryd.prog 94 [.str l, .int 10, .int most] (.tp [.int (numB most l).1, .int (numB most l).2]) := by
  refine pure_of_aw (ys := [_, _]) [] [] [] mixed Tryd.func94 rfl (by kernel_rfl) (by kernel_rfl) (by simp [Tryd.ntmps94]) rfl ?_
  have hm0 : ¬ (most : Int) < 0 := by omega
  have hlow : (lowB l).length = l.length := by simp [lowB]
  simp [hm0]
  refine pcall_of (lower76 l hl) (by simp) ?_
  simp [hlow]
  refine ⟨by omega, ?_⟩
  refine aw_loop0 (fun k : Nat => k ≤ l.length ∧ (l.take k).all dig = true) (fun k => [(0, .p (.str l)), (1, .p (.int 10)), (2, .p (.int most)), (8, .p (.int (numF most (l.take k)).1)), (9, .p (.bool (numF most (l.take k)).2)),
    (17, .p (.sl (bytesPC (lowB l)))), (18, .p (.int l.length)), (19, .p (.int k))]) (fun k => l.length - k) 0 (by simp) (leN_id (by simp [numF])) ?_
  rintro k ⟨h1, h2⟩
  have hle := numF_le h2 hm
  by_cases c : k < l.length
  · have hlk : (lowB l)[k]'(by omega) = lowO l[k] := by simp [lowB]
    simp [c, hlow, hlk]
    refine pcall_of (sindex93 dg10 (lowO l[k])) (by simp [dg10]) ?_
    rw [dg10_ix]
    have hsn := numF_snoc most l k c
    have hall : (l.take (k + 1)).all dig = dig l[k] := by rw [List.take_succ_eq_append_getElem c, List.all_append, h2]; simp
    cases hd : dig l[k] with
    | false =>
      have hne : l ≠ [] := by intro e; subst e; simp at c
      have hnum : numB most l = (0, 10) := by
        unfold numB
        rw [if_pos]
        right
        rw [List.all_eq_false]
        exact ⟨l[k], List.getElem_mem c, by rw [hd]; simp⟩
      simp [hnum, Tryd.results94]
    | true =>
      have hd2 := hd
      unfold dig at hd2; simp at hd2
      rw [hd] at hall
      obtain ⟨d, hdd⟩ : ∃ d : Nat, d = l[k].toNat - 48 := ⟨_, rfl⟩
      have hdi : (l[k].toNat : Int) - 48 = (d : Int) := by omega
      generalize numF most (l.take k) = st at *
      obtain ⟨n, lg⟩ := st
      simp only at hle hsn ⊢
      have w1 : IntKind.i64.wrap ((most : Int) - (d : Int)) = ((most - d : Nat) : Int) := by rw [wrap64_id (by omega) (by omega)]; omega
      cases lg with
      | true =>
        have e1 : numF most (l.take (k + 1)) = (n, true) := by rw [hsn]; simp [numS]
        simp [hdi]
        refine ⟨k + 1, ⟨by omega, List.all_eq_true.1 hall⟩, by omega, leN_id ?_⟩
        simp [e1, wrap64_id (n := (k : Int) + 1) (by omega) (by omega)]
      | false =>
        have w2 : IntKind.i64.wrap (((most - d : Nat) : Int) / 10) = (((most - d) / 10 : Nat) : Int) := by rw [wrap64_id (by omega) (by omega)]; omega
        by_cases q : (most - d) / 10 < n
        · have q2 : ((most - d : Nat) : Int) / 10 < (n : Int) := by omega
          have e1 : numF most (l.take (k + 1)) = (n, true) := by rw [hsn]; simp [numS, ← hdd, q]
          simp [hdi, w1, w2, q, q2]
          refine ⟨k + 1, ⟨by omega, List.all_eq_true.1 hall⟩, by omega, leN_id ?_⟩
          simp [e1, wrap64_id (n := (k : Int) + 1) (by omega) (by omega)]
        · have q2 : ¬ ((most - d : Nat) : Int) / 10 < (n : Int) := by omega
          have q3 : ¬ (most : Int) < (d : Int) := by omega
          have e1 : numF most (l.take (k + 1)) = (n * 10 + d, false) := by rw [hsn]; simp [numS, ← hdd, q]
          have w3 : IntKind.i64.wrap ((n : Int) * 10) = ((n * 10 : Nat) : Int) := by rw [wrap64_id (by omega) (by omega)]; omega
          have w4 : IntKind.i64.wrap ((n : Int) * 10 + (d : Int)) = (n : Int) * 10 + (d : Int) := wrap64_id (by omega) (by omega)
          simp [hdi, w1, w2, q, q2, q3, w3]
          refine ⟨k + 1, ⟨by omega, List.all_eq_true.1 hall⟩, by omega, leN_id ?_⟩
          simp [e1, w4, wrap64_id (n := (k : Int) + 1) (by omega) (by omega)]
  · obtain rfl : k = l.length := by omega
    rw [List.take_length] at h2 hle ⊢
    unfold numB
    by_cases he : l = []
    · subst he; simp [Tryd.results94]
    · have hd : (l == []) = false := by simpa using he
      cases hb : (numF most l).2 with
      | true => simp [he, hd, hb, h2, Tryd.results94]
      | false => simp [he, hd, hb, h2, Tryd.results94]
theorem number60 (l : List UInt8) (most : Nat) (hl : l.length ≤ 1000000000) (hm : 9 ≤ most) (hm2 : most ≤ 1000000000000) : PureC Tryd.prog 60 [.str l, .int most] (.tp [.int (numB most l).1, .int (numB most l).2]) := by
  refine pure_of_aw (ys := [_, _]) [] [] [] mixed Tryd.func60 rfl (by kernel_rfl) (by kernel_rfl) (by simp [Tryd.ntmps60]) rfl ?_
  simp
  refine pcall_of (number94 l most hl hm hm2) (by simp) ?_
  simp [Tryd.results60]
end Go.Av

/-! part Q20 -/
namespace Go.Av
open Go.Proofs

def digN (c : UInt8) : Nat := if 48 ≤ c.toNat ∧ c.toNat ≤ 57 then c.toNat - 48 else if 97 ≤ c.toNat ∧ c.toNat ≤ 102 then c.toNat - 87 else if 65 ≤ c.toNat ∧ c.toNat ≤ 70 then c.toNat - 55 else 99
theorem digN_dig {c : UInt8} (h : dig c = true) : digN c = c.toNat - 48 := by
  unfold dig at h; simp at h; unfold digN; rw [if_pos h]
theorem digN_not {c : UInt8} (h : dig c = false) : 10 ≤ digN c := by
  unfold dig at h; simp at h; unfold digN; split
  · omega
  · split
    · omega
    · split <;> omega
theorem digit69 (c : UInt8) : PureC Tryd.prog 69 [u8P c] (.int (digN c)) := by
  refine pure_of_aw (ys := [_]) [] [] [] mixed Tryd.func69 rfl (by kernel_rfl) (by kernel_rfl) (by simp [Tryd.ntmps69]) rfl ?_
  have hlt := UInt8.toNat_lt c
  unfold digN u8P
  generalize c.toNat = k at *
  have w1 : 48 ≤ k → IntKind.i64.wrap ((k : Int) - 48) = ((k - 48 : Nat) : Int) := fun h => by rw [wrap64_id (by omega) (by omega)]; omega
  have w2 : 97 ≤ k → IntKind.i64.wrap ((k : Int) - 87) = ((k - 87 : Nat) : Int) := fun h => by rw [wrap64_id (by omega) (by omega)]; omega
  have w3 : 65 ≤ k → IntKind.i64.wrap ((k : Int) - 55) = ((k - 55 : Nat) : Int) := fun h => by rw [wrap64_id (by omega) (by omega)]; omega
  have w0 : IntKind.i64.wrap (k : Int) = (k : Int) := wrap64_id (by omega) (by omega)
  by_cases a1 : 48 ≤ k
  · have b1 : (48 : Int) ≤ (k : Int) := by omega
    by_cases a2 : k ≤ 57
    · have b2 : (k : Int) ≤ 57 := by omega
      simp [a1, a2, b1, b2, w0, w1 a1, Tryd.results69]
    · have b2 : ¬ (k : Int) ≤ 57 := by omega
      by_cases a3 : 97 ≤ k
      · have b3 : (97 : Int) ≤ (k : Int) := by omega
        by_cases a4 : k ≤ 102
        · have b4 : (k : Int) ≤ 102 := by omega
          simp [a1, a2, b1, b2, a3, a4, b3, b4, w0, w2 a3, Tryd.results69]
        · have b4 : ¬ (k : Int) ≤ 102 := by omega
          have a5 : 65 ≤ k := by omega
          have b5 : (65 : Int) ≤ (k : Int) := by omega
          have a6 : ¬ k ≤ 70 := by omega
          have b6 : ¬ (k : Int) ≤ 70 := by omega
          simp [a1, a2, b1, b2, a3, a4, b3, b4, a5, b5, a6, b6, Tryd.results69]
      · have b3 : ¬ (97 : Int) ≤ (k : Int) := by omega
        by_cases a5 : 65 ≤ k
        · have b5 : (65 : Int) ≤ (k : Int) := by omega
          by_cases a6 : k ≤ 70
          · have b6 : (k : Int) ≤ 70 := by omega
            simp [a1, a2, b1, b2, a3, b3, a5, b5, a6, b6, w0, w3 a5, Tryd.results69]
          · have b6 : ¬ (k : Int) ≤ 70 := by omega
            simp [a1, a2, b1, b2, a3, b3, a5, b5, a6, b6, Tryd.results69]
        · have b5 : ¬ (65 : Int) ≤ (k : Int) := by omega
          simp [a1, a2, b1, b2, a3, b3, a5, b5, Tryd.results69]
  · have b1 : ¬ (48 : Int) ≤ (k : Int) := by omega
    have a3 : ¬ 97 ≤ k := by omega
    have b3 : ¬ (97 : Int) ≤ (k : Int) := by omega
    have a5 : ¬ 65 ≤ k := by omega
    have b5 : ¬ (65 : Int) ≤ (k : Int) := by omega
    simp [a1, b1, a3, b3, a5, b5, Tryd.results69]
theorem rplain97 (c : UInt8) : PureC Tryd.prog 97 [u8P c] (.bool (plnB c)) := by
  refine pure_of_aw (ys := [_]) [] [] [] mixed Tryd.func97 rfl (by kernel_rfl) (by kernel_rfl) (by simp [Tryd.ntmps97]) rfl ?_
  unfold plnB u8P
  generalize c.toNat = k
  by_cases a3 : k = 9
  · subst a3
    simp [Tryd.results97]
  · have b3 : ((k : Int) == 9) = false := by simp; omega
    by_cases a1 : 32 ≤ k
    · have b1 : (32 : Int) ≤ (k : Int) := by omega
      by_cases a2 : k = 127
      · subst a2
        simp [Tryd.results97]
      · have b2 : ((k : Int) != 127) = true := by simp; omega
        simp [a1, a2, b1, b2, a3, b3, Tryd.results97]
    · have b1 : ¬ (32 : Int) ≤ (k : Int) := by omega
      simp [a1, b1, a3, b3, Tryd.results97]
theorem rblank98 (c : UInt8) : PureC Tryd.prog 98 [u8P c] (.bool (blO c)) := by
  refine pure_of_aw (ys := [_]) [] [] [] mixed Tryd.func98 rfl (by kernel_rfl) (by kernel_rfl) (by simp [Tryd.ntmps98]) rfl ?_
  unfold blO u8P
  generalize c.toNat = k
  by_cases a1 : k = 32
  · subst a1
    simp [Tryd.results98]
  · have b1 : ((k : Int) == 32) = false := by simp; omega
    by_cases a3 : k = 9
    · subst a3
      simp [Tryd.results98]
    · have b3 : ((k : Int) == 9) = false := by simp; omega
      simp [a1, b1, a3, b3, Tryd.results98]
/-- .. and no blank at its ends -/
def rvalB (l : List UInt8) : Bool := l.all plnB && (decide (l = []) || (!(blO (l.headD 0)) && !(blO (l.getLastD 0))))
theorem rvalue62 (l : List UInt8) (hl : l.length ≤ 1000000000) : PureC Tryd.prog 62 [.str l] (.bool (rvalB l)) := by
  refine pure_of_aw (ys := [_]) [] [] [] mixed Tryd.func62 rfl (by kernel_rfl) (by kernel_rfl) (by simp [Tryd.ntmps62]) rfl ?_
  simp
  refine aw_loop0 (fun k : Nat => k ≤ l.length ∧ l.all plnB = (l.drop k).all plnB) (fun k => [(0, .p (.str l)), (3, .p (.int k))]) (fun k => l.length - k) 0 (by simp) (leN_id (by simp)) ?_
  rintro k ⟨h1, h2⟩
  by_cases c : k < l.length
  · rw [List.drop_eq_getElem_cons c, List.all_cons] at h2
    simp [c]
    refine pcall_of (rplain97 l[k]) (by simp) ?_
    cases hz : plnB l[k] with
    | true =>
      rw [hz] at h2
      simp
      refine ⟨k + 1, ⟨by omega, by simpa using h2⟩, by omega, leN_id ?_⟩
      simp [wrap64_id (n := (k : Int) + 1) (by omega) (by omega)]
    | false =>
      rw [hz, Bool.false_and] at h2
      simp [rvalB, h2, Tryd.results62]
  · obtain rfl : k = l.length := by omega
    rw [List.drop_length, List.all_nil] at h2
    unfold rvalB
    rw [h2]
    cases l with
    | nil => simp [Tryd.results62]
    | cons a l =>
      have hd : (((l.length : Int) + 1) == 0) = false := by simp; omega
      simp [hd]
      refine pcall_of (rblank98 a) (by simp) ?_
      cases hb : blO a with
      | true => simp [Tryd.results62]
      | false =>
        have w1 : IntKind.i64.wrap (l.length : Int) = (l.length : Int) := wrap64_id (by omega) (by simp at hl; omega)
        simp [w1]
        have hla : (a :: l).getLast?.getD 0 = (a :: l)[l.length] := by
          rw [List.getLast?_eq_getElem?]
          simp
        refine pcall_of (rblank98 ((a :: l)[l.length])) (by simp) ?_
        cases hz : blO ((a :: l)[l.length]) <;> simp [Tryd.results62, hla, hz]
theorem numF_long (most : Nat) : ∀ (l : List UInt8) (st : Nat × Bool), st.2 = true → (l.foldl (numS most) st).2 = true
  | [], _, h => h
  | a :: l, st, h => by
    have e : numS most st a = (st.1, true) := by unfold numS; rw [if_pos (.inl h)]
    rw [List.foldl_cons, e]; exact numF_long most l _ rfl
theorem numF_longk (most : Nat) (l : List UInt8) (k : Nat) (h : (numF most (l.take k)).2 = true) : (numF most l).2 = true := by
  have e : numF most l = (l.drop k).foldl (numS most) (numF most (l.take k)) := by
    unfold numF; rw [← List.foldl_append, List.take_append_drop]
  rw [e]; exact numF_long most _ _ h
set_option maxHeartbeats 1000000 in
theorem rnumber30 (l : List UInt8) (most : Nat) (hl : l.length ≤ 1000000000) (hm : 9 ≤ most) (hm2 : most ≤ 1000000000000) : PureC Tryd.prog 30 [.str l, .int 10, .int most] (.tp [.int (numB most l).1, .int (numB most l).2]) := by
  refine pure_of_aw (ys := [_, _]) [] [] [] mixed Tryd.func30 rfl (by kernel_rfl) (by kernel_rfl) (by simp [Tryd.ntmps30]) rfl ?_
  have hm0 : ¬ (most : Int) < 0 := by omega
  by_cases hne : l = []
  · subst hne; simp [Tryd.results30, numB]
  have hpos : 0 < l.length := List.length_pos_iff.2 hne
  have hz0 : ((l.length : Int) == 0) = false := by simp; omega
  simp [hz0]
  refine aw_loop0 (fun k : Nat => k ≤ l.length ∧ (l.take k).all dig = true) (fun k => [(0, .p (.str l)), (1, .p (.int 10)), (2, .p (.int most)), (8, .p (.int k))]) (fun k => l.length - k) 0 (by simp) (leN_id (by simp)) ?_
  rintro k ⟨h1, h2⟩
  by_cases c : k < l.length
  · simp [c]
    refine pcall_of (digit69 l[k]) (by simp) ?_
    have hall : (l.take (k + 1)).all dig = dig l[k] := by rw [List.take_succ_eq_append_getElem c, List.all_append, h2]; simp
    cases hd : dig l[k] with
    | false =>
      have h10 := digN_not hd
      have h10' : (10 : Int) ≤ (digN l[k] : Int) := by omega
      have hnum : numB most l = (0, 10) := by
        unfold numB
        rw [if_pos]
        right
        rw [List.all_eq_false]
        exact ⟨l[k], List.getElem_mem c, by rw [hd]; simp⟩
      simp [h10, h10', hnum, Tryd.results30]
    | true =>
      have e := digN_dig hd
      rw [hd] at hall
      unfold dig at hd; simp at hd
      have h10' : ¬ (10 : Int) ≤ (digN l[k] : Int) := by omega
      have h10 : ¬ 10 ≤ digN l[k] := by omega
      simp [h10, h10']
      refine ⟨k + 1, ⟨by omega, List.all_eq_true.1 hall⟩, by omega, leN_id ?_⟩
      simp [wrap64_id (n := (k : Int) + 1) (by omega) (by omega)]
  · obtain rfl : k = l.length := by omega
    rw [List.take_length] at h2
    simp [hm0]
    refine aw_loop0 (fun k : Nat => k ≤ l.length ∧ (numF most (l.take k)).2 = false) (fun k => [(0, .p (.str l)), (1, .p (.int 10)), (2, .p (.int most)), (9, .p (.int (numF most (l.take k)).1)), (10, .p (.int k))]) (fun k => l.length - k) 0 (by simp [numF]) (leN_id (by simp [numF])) ?_
    rintro k ⟨h1, h3⟩
    have h2k : (l.take k).all dig = true := List.all_eq_true.2 fun x hx => List.all_eq_true.1 h2 x (List.mem_of_mem_take hx)
    have hle := numF_le h2k hm
    have hne' : ¬ (l = [] ∨ l.all dig = false) := by rw [h2]; simp [hne]
    by_cases c : k < l.length
    · have hd : dig l[k] = true := List.all_eq_true.1 h2 _ (List.getElem_mem c)
      have hdn := digN_dig hd
      unfold dig at hd; simp at hd
      have hsn := numF_snoc most l k c
      have hlong := numF_longk most l (k + 1)
      simp [c]
      refine pcall_of (digit69 l[k]) (by simp) ?_
      generalize numF most (l.take k) = st at *
      obtain ⟨n, lg⟩ := st
      simp only at h3 hle hsn ⊢
      subst h3
      obtain ⟨d, hdd⟩ : ∃ d : Nat, d = l[k].toNat - 48 := ⟨_, rfl⟩
      rw [hdn, ← hdd]
      have q3 : ¬ (most : Int) < (d : Int) := by omega
      have q4 : ¬ most < d := by omega
      have w1 : IntKind.i64.wrap ((most : Int) - (d : Int)) = ((most - d : Nat) : Int) := by rw [wrap64_id (by omega) (by omega)]; omega
      have w2 : IntKind.i64.wrap (((most - d : Nat) : Int) / 10) = (((most - d) / 10 : Nat) : Int) := by rw [wrap64_id (by omega) (by omega)]; omega
      by_cases q : (most - d) / 10 < n
      · have q2 : ((most - d : Nat) : Int) / 10 < (n : Int) := by omega
        have e1 : numF most (l.take (k + 1)) = (n, true) := by rw [hsn]; simp [numS, ← hdd, q]
        have e2 : numB most l = (0, 12) := by
          unfold numB; rw [if_neg hne', if_pos (hlong (by rw [e1]))]
        simp [w1, w2, q, q2, q3, q4, e2, Tryd.results30]
      · have q2 : ¬ ((most - d : Nat) : Int) / 10 < (n : Int) := by omega
        have e1 : numF most (l.take (k + 1)) = (n * 10 + d, false) := by rw [hsn]; simp [numS, ← hdd, q]
        have w3 : IntKind.i64.wrap ((n : Int) * 10) = ((n * 10 : Nat) : Int) := by rw [wrap64_id (by omega) (by omega)]; omega
        have w4 : IntKind.i64.wrap ((n : Int) * 10 + (d : Int)) = (n : Int) * 10 + (d : Int) := wrap64_id (by omega) (by omega)
        simp [w1, w2, q, q2, q3, q4, w3]
        refine ⟨k + 1, ⟨by omega, by rw [e1]⟩, by omega, leN_id ?_⟩
        simp [e1, w4, wrap64_id (n := (k : Int) + 1) (by omega) (by omega)]
    · obtain rfl : k = l.length := by omega
      rw [List.take_length] at h3 ⊢
      have e2 : numB most l = (((numF most l).1 : Int), 0) := by
        unfold numB; rw [if_neg hne', h3]; simp
      simp [e2, Tryd.results30]
end Go.Av
