/- What strings.Trim of blanks, octet.Lower, number, and the document's trims compute, for every text. -/
import Derived.Test.YtffoncjofjgojaaGreatDoorZa
import Derived.Test.YtffoncjofjgojaaGreatDoorProg
import Derived.Shelf.Lays
import Derived.Shelf.Strings.AsciiSet
import Derived.Shelf.Strings.IndexAnyAll
set_option linter.all false
/-! part TryzShelf -/
namespace Go.Proofs
open Go.Shelf
def Tryz.lays227_ren : Go.Shelf.Ren := ⟨fun | 227 => 179 | n => n, fun | 9 => 9 | 116 => 186 | 4 => 4 | 0 => 0 | 3 => 3 | 5 => 5 | n => n, fun | n => n⟩
theorem Tryz.lays227 : Go.Proofs.Lays.n227 Tryz.prog Tryz.lays227_ren := {
  mixed := by kernel_rfl
  f227 := Tryz.func179.trans (congrArg some (by kernel_rfl))
  t0 := Tryz.underlying0
  a0 := Tryz.isAgg0
  z0 := Tryz.sizeOf0
  v0 := Tryz.zeroValue0
  t3 := Tryz.underlying3
  a3 := Tryz.isAgg3
  z3 := Tryz.sizeOf3
  v3 := Tryz.zeroValue3
  t4 := Tryz.underlying4
  a4 := Tryz.isAgg4
  z4 := Tryz.sizeOf4
  v4 := Tryz.zeroValue4
  t5 := Tryz.underlying5
  a5 := Tryz.isAgg5
  z5 := Tryz.sizeOf5
  v5 := Tryz.zeroValue5
  t9 := Tryz.underlying9
  a9 := Tryz.isAgg9
  z9 := Tryz.sizeOf9
  v9 := Tryz.zeroValue9
  t116 := Tryz.underlying186
  a116 := Tryz.isAgg186
  z116 := Tryz.sizeOf186 }
end Go.Proofs

/-! part Z16 -/
namespace Go.Av
open Go.Proofs Go.RowKit Go.Shelf
set_option maxRecDepth 100000


/-- the set of blanks, as an array -/
def setP : List PC := (List.range 256).map fun c => .sc (.bool (decide (c = 32 ∨ c = 9)))
theorem set_cells : (Lib.setCells [32, 9]).toList = (List.range 256).map fun c => Value.bool (decide (c = 32 ∨ c = 9)) := by kernel_rfl
theorem holds_below {M : Mem} {w w' : World} (h : Holds w M) (hB : Below w.heap.size w w') : Holds w' M := ⟨fun b o v e => by
  have hlt := h.lt e
  rw [hB.cell (p := ⟨b, o, none⟩) hlt]; exact h b o v e, h.g⟩
theorem reps_bools {M : Mem} (f : Nat → Bool) : ∀ l : List Nat, Reps M (l.map fun c => Value.bool (f c)) (l.map fun c => PC.sc (.bool (f c)))
  | [] => .nil
  | a :: l => .cons (.sc _ rfl) (reps_bools f l)
theorem reps_bools_inv {M : Mem} (f : Nat → Bool) : ∀ {l : List Nat} {us : List Value}, Reps M us (l.map fun c => PC.sc (.bool (f c))) → us = l.map fun c => Value.bool (f c)
  | [], _, .nil => rfl
  | a :: l, _, .cons h hs => by
    cases h
    rw [reps_bools_inv f hs]; rfl
set_option maxRecDepth 100000 in
theorem makeSet140 : PureC Tryz.prog 179 [.str [32, 9]] (.tp [.agg false setP, .bool true]) := by
  refine ⟨⟨_, Tryz.func179, by kernel_rfl, by kernel_rfl⟩, fun M w vs hH hr => ?_⟩
  cases hr with
  | cons h hs =>
    cases hs
    cases h
    have hi : (Tryz.prog.info? (Tryz.lays227_ren.t 116)).map (fun i => (i.zero, i.size)) = some (some (.agg (Array.replicate 256 (.bool false))), 256) := by kernel_rfl
    refine (Any.strings_makeASCIISet Tryz.lays227 (zero_of_info hi).1 (zero_of_info hi).2 ⟨#[32, 9]⟩ w (by decide) (fun j b e => ?_)).mono fun e w' ⟨h1, h2⟩ => ?_
    · match j, e with
      | 0, e => cases e; decide
      | 1, e => cases e; decide
      | j + 2, e => cases e
    · have hB : Below w.heap.size w w' := by rw [h2]; exact (Below.refl _ _).alloc (Nat.le_refl _) _
      refine ⟨_, M, h1, ?_, holds_below hH hB, Mem.le_refl _, fun _ _ => rfl, hB⟩
      have e1 : (Value.agg (Lib.setCells (ByteArray.mk #[32, 9]).data.toList)) = .agg ((List.range 256).map fun c => Value.bool (decide (c = 32 ∨ c = 9))).toArray := by
        exact congrArg Value.agg (Array.ext' (set_cells.trans List.toList_toArray.symm))
      rw [e1]
      refine Rep.tup (vs := [_, _]) (.cons (.agg (reps_bools _ _) ?_) (.cons (.sc _ rfl) .nil))
      intro v hv
      obtain ⟨c, _, rfl⟩ := List.mem_map.1 hv
      rfl
set_option maxHeartbeats 1000000 in
theorem contains_any (b off : Nat) (x : UInt8) (v : Bool) (w : World) (hc : w.cell? ⟨b, off + x.toNat, none⟩ = some (.bool v)) :
    Calls Tryz.prog 223 #[.pointer (some ⟨b, off, none⟩), .int .u8 x.toNat] w fun e w' => e = .returned (.bool v) ∧ w' = w := by
  have hx256 : (x.toNat : Int) < 256 := by have := UInt8.toNat_lt x; omega
  go_enter Tryz.func223, Tryz.ntmps223
  go_wp2
  go_ret
  exact ⟨rfl, rfl⟩
def blO (c : UInt8) : Bool := decide (c.toNat = 32 ∨ c.toNat = 9)
theorem contains157 (x : UInt8) : PureC Tryz.prog 223 [.ref (.agg false setP), u8P x] (.bool (blO x)) := by
  refine ⟨⟨_, Tryz.func223, by kernel_rfl, by kernel_rfl⟩, fun M w vs hH hr => ?_⟩
  cases hr with
  | cons h hs =>
    cases hs with
    | cons h2 hs =>
    cases hs
    cases h2
    cases h with
    | ref hat h =>
      rename_i b off u
      have hx := UInt8.toNat_lt x
      have hcell : w.cell? ⟨b, off + x.toNat, none⟩ = some (.bool (blO x)) := by
        refine hH _ _ _ (hat x.toNat _ ?_)
        cases h with
        | agg hs h1 =>
          rename_i us
          have e : us = (List.range 256).map fun c => Value.bool (decide (c = 32 ∨ c = 9)) := reps_bools_inv _ hs
          subst e
          show ((List.range 256).map fun c => Value.bool (decide (c = 32 ∨ c = 9)))[x.toNat]? = some (.bool (blO x))
          rw [List.getElem?_map, List.getElem?_range hx]; rfl
      refine (contains_any b off x _ w hcell).mono fun e w' ⟨h1, h2⟩ => ?_
      subst h2
      exact ⟨_, M, h1, .sc _ rfl, hH, Mem.le_refl _, fun _ _ => rfl, Below.refl _ _⟩
/-- a text without blanks ahead; behind -/
def trimL (l : List UInt8) : List UInt8 := l.dropWhile blO
def trimR (l : List UInt8) : List UInt8 := (l.reverse.dropWhile blO).reverse
def trimB (l : List UInt8) : List UInt8 := trimL (trimR l)
theorem trimR_snoc (l : List UInt8) (a : UInt8) : trimR (l ++ [a]) = if blO a = true then trimR l else l ++ [a] := by
  unfold trimR
  rw [List.reverse_append, List.reverse_singleton, List.singleton_append, List.dropWhile_cons]
  split
  · rfl
  · simp
theorem trimR_le (l : List UInt8) : (trimR l).length ≤ l.length := by
  unfold trimR
  rw [List.length_reverse]
  have := (List.dropWhile_sublist (l := l.reverse) blO).length_le
  simpa using this
theorem trimL_le (l : List UInt8) : (trimL l).length ≤ l.length := (List.dropWhile_sublist blO).length_le
theorem trimL141 (l : List UInt8) (hl : l.length ≤ 1000000000) : PureC Tryz.prog 180 [.str l, .ref (.agg false setP)] (.str (trimL l)) := by
  refine pure_of_aw (ys := [_]) [] [] [] mixed Tryz.func180 rfl (by kernel_rfl) (by kernel_rfl) (by simp [Tryz.ntmps180]) rfl ?_
  simp
  refine aw_loop0 (fun s : List UInt8 => s.length ≤ l.length ∧ trimL l = trimL s) (fun s => [(0, .p (.str s)), (1, .p (.ref (.agg false setP)))]) (fun s => s.length) l (by simp) (leN_id (by simp)) ?_
  rintro s ⟨h1, h2⟩
  cases s with
  | nil => rw [h2]; simp [Tryz.results180, trimL]
  | cons a s =>
    rw [h2]
    have hd : (0 : Int) < ((s.length : Int) + 1) := by omega
    simp [hd]
    refine pcall_of (contains157 a) (by simp) ?_
    unfold trimL
    rw [List.dropWhile_cons]
    cases hb : blO a with
    | false => simp [Tryz.results180]
    | true =>
      simp
      refine ⟨s, ⟨by simp at h1; omega, ?_⟩, by simp, leN_id ?_⟩
      · first | rfl | simp
      · simp
end Go.Av

/-! part Z17 -/
namespace Go.Av
open Go.Proofs
set_option maxRecDepth 100000


theorem trimR142 (l : List UInt8) (hl : l.length ≤ 1000000000) : PureC Tryz.prog 181 [.str l, .ref (.agg false setP)] (.str (trimR l)) := by
  refine pure_of_aw (ys := [_]) [] [] [] mixed Tryz.func181 rfl (by kernel_rfl) (by kernel_rfl) (by simp [Tryz.ntmps181]) rfl ?_
  simp
  obtain ⟨r, hr⟩ : ∃ r, r = trimR l := ⟨_, rfl⟩
  rw [← hr]
  refine aw_loop0 (fun k : Nat => k ≤ l.length ∧ r = trimR (l.take k)) (fun k => [(0, .p (.str (l.take k))), (1, .p (.ref (.agg false setP)))]) (fun k => k) l.length (by simp [hr]) (leN_id (by simp)) ?_
  rintro k ⟨h1, h2⟩
  have hm : min k l.length = k := Nat.min_eq_left h1
  cases k with
  | zero => rw [h2]; simp [Tryz.results181, trimR]
  | succ k =>
    have hk : k < l.length := by omega
    have hd : (0 : Int) < ((k : Int) + 1) := by omega
    have w1 : IntKind.i64.wrap (k : Int) = (k : Int) := wrap64_id (by omega) (by omega)
    have hsp : l.take (k + 1) = l.take k ++ [l[k]] := List.take_succ_eq_append_getElem hk
    have hb := trimR_snoc (l.take k) l[k]
    rw [← hsp, ← h2] at hb
    simp [hm, hd, w1, hk]
    refine pcall_of (contains157 l[k]) (by simp) ?_
    cases hz : blO l[k] with
    | false =>
      rw [hz] at hb
      simp at hb
      simp [hb, Tryz.results181]
    | true =>
      rw [hz] at hb
      simp at hb
      simp [hm, w1, hk]
      refine ⟨k, ⟨by omega, hb⟩, by omega, leN_id ?_⟩
      simp [List.take_take]
      try omega
theorem bor_p {bx : List (Nat × Ob)} {k : Nat} (x : PC) : borF bx (k + 1) (.p x) x := by
  unfold borF; exact ⟨x, rfl, .inl rfl⟩
theorem bor_ps {bx : List (Nat × Ob)} {k : Nat} : ∀ l : List PC, all2 (borF bx (k + 1)) (l.map .p) l
  | [] => trivial
  | x :: l => ⟨bor_p x, bor_ps l⟩
theorem setP_len : setP.length = 256 := by simp [setP]
theorem pcCells_set : pcCells (.agg false setP) = setP.map .p := rfl
def f256 : List PC := List.replicate 256 (.sc (.bool false))
theorem f256_len : f256.length = 256 := List.length_replicate
theorem zeroC149 : zeroC Tryz.prog 186 = some f256 := by kernel_rfl
theorem drop_f256 : (f256.map AV.p).drop 256 = [] := List.drop_of_length_le (by rw [List.length_map, f256_len]; exact Nat.le_refl _)
theorem trim115 (l : List UInt8) (hl : l.length ≤ 1000000000) : PureC Tryz.prog 139 [.str l, .str [32, 9]] (.str (trimB l)) := by
  refine pure_of_aw (ys := [_]) [] [] [] mixed Tryz.func139 rfl (by kernel_rfl) (by kernel_rfl) (by simp [Tryz.ntmps139]) rfl ?_
  by_cases h : l = []
  · subst h; simp [Tryz.results139, trimB, trimR, trimL]
  · have hd : (l == []) = false := by simpa using h
    simp [h, hd]
    refine pcall_of makeSet140 (by simp) ?_
    simp [zeroC149, f256_len, setP_len, pcCells_set, drop_f256]
    have bo : ∀ k : Nat, borF [(0, ({ el := 186, sz := 256, xs := setP.map AV.p } : Ob))] (k + 2) (.obj 0 0) (.ref (.agg false setP)) := fun k => by
      refine ⟨_, rfl, by simp, ?_⟩
      simp only [List.drop_zero, List.length_map]
      have e : (setP.map AV.p).take setP.length = setP.map AV.p := List.take_of_length_le (by simp)
      rw [e]
      exact bor_ps _
    refine bcall_of0 (trimR142 l hl) ⟨bor_p _, bo _, trivial⟩ rfl ?_
    simp
    refine bcall_of0 (trimL141 (trimR l) (Nat.le_trans (trimR_le l) hl)) ⟨bor_p _, bo _, trivial⟩ rfl ?_
    simp [trimB, Tryz.results139]
theorem trim96 (l : List UInt8) (hl : l.length ≤ 1000000000) : PureC Tryz.prog 100 [.str l] (.str (trimB l)) := by
  refine pure_of_aw (ys := [_]) [] [] [] mixed Tryz.func100 rfl (by kernel_rfl) (by kernel_rfl) (by simp [Tryz.ntmps100]) rfl ?_
  simp
  refine pcall_of (trim115 l hl) (by simp) ?_
  simp [Tryz.results100]

def lowO (c : UInt8) : UInt8 := if 65 ≤ c.toNat ∧ c.toNat ≤ 90 then c + 32 else c
def lowB (l : List UInt8) : List UInt8 := l.map lowO
abbrev rowByt (l : List UInt8) : Ob := ⟨1000005, 1, (bytesPC l).map .p⟩
def lowM (l : List UInt8) (k : Nat) : List UInt8 := (l.take k).map lowO ++ l.drop k
theorem wrapU8_id {n : Int} (h0 : 0 ≤ n) (h1 : n ≤ 255) : IntKind.u8.wrap n = n := by
  have e1 : IntKind.u8.bits = 8 := rfl
  simp [IntKind.wrap, e1]
  try (have e2 : IntKind.u8.signed = false := rfl)
  try simp [e2]
  omega
theorem lowM_len (l : List UInt8) (k : Nat) : (lowM l k).length = l.length := by simp [lowM]; omega
theorem lowM_at (l : List UInt8) (k : Nat) (h : k < l.length) : (lowM l k)[k]? = some l[k] := by
  unfold lowM
  rw [List.getElem?_append_right (by simp; omega)]
  simp [Nat.min_eq_left (Nat.le_of_lt h), h]
theorem lowM_set (l : List UInt8) (k : Nat) (h : k < l.length) : (lowM l k).set k (lowO l[k]) = lowM l (k + 1) := by
  unfold lowM
  rw [List.set_append_right _ _ (by simp; omega)]
  have e : ((l.take k).map lowO).length = k := by simp; omega
  rw [e, Nat.sub_self, List.drop_eq_getElem_cons h, List.set_cons_zero, List.take_succ_eq_append_getElem h, List.map_append, List.append_assoc]
  rfl
theorem lowO_nat (c : UInt8) (h1 : 65 ≤ c.toNat) (h2 : c.toNat ≤ 90) : (lowO c).toNat = c.toNat + 32 := by
  unfold lowO
  rw [if_pos ⟨h1, h2⟩, UInt8.toNat_add]
  have : (32 : UInt8).toNat = 32 := rfl
  rw [this]; omega
/-- a row's beginning, lent -/
theorem bor_byt {bx : List (Nat × Ob)} {k id n : Nat} {c : Option Nat} {L M : List UInt8} (hn : n = L.length) (h : lk id bx = some (rowByt (L ++ M))) : borF bx (k + 1) (.view id 0 n 1 c) (.sl (bytesPC L)) := by
  refine ⟨_, h, by omega, by simp [hn], by simp [hn], ?_, ?_, ?_⟩
  · rw [flat_pcs, flat_one (fun x hx => by simp only [bytesPC, List.mem_map] at hx; obtain ⟨_, _, rfl⟩ := hx; rfl)]
    subst hn
    simp [bytesPC]
    try (rw [List.take_append_of_le_length (by simp)]; exact List.take_of_length_le (by simp))
  · intro y hy; simp only [bytesPC, List.mem_map] at hy; obtain ⟨e, _, rfl⟩ := hy; rfl
  · intro y hy; simp only [bytesPC, List.mem_map] at hy; obtain ⟨e, _, rfl⟩ := hy; rfl
set_option maxHeartbeats 1000000 in
theorem lower76 (l : List UInt8) (hl : l.length ≤ 1000000000) : PureC Tryz.prog 67 [.str l] (.str (lowB l)) := by
  refine pure_of_aw (ys := [_]) [7] [] [] mixed Tryz.func67 rfl (by kernel_rfl) (by kernel_rfl) (by simp [Tryz.ntmps67]) rfl ?_
  simp
  refine ⟨by omega, ?_⟩
  refine aw_loop (fun k : Nat => k ≤ l.length) (fun k => [(3, .view 0 0 l.length 1 none), (8, .view 0 0 l.length 1 none), (9, .p (.int l.length)), (10, .p (.int k))])
    (fun k => ⟨[(0, rowByt (lowM l k))], [], 1⟩) (fun k => l.length - k) 0 (by simp) _ (AS.le_refl _ _) (leN_id (by simp [lowM])) ?_
  rintro k h1
  have hlen := lowM_len l k
  by_cases c : k < l.length
  · have hat := lowM_at l k c
    have hg : (lowM l k)[k]'(by omega) = l[k] := by
      have := List.getElem?_eq_getElem (l := lowM l k) (i := k) (by omega)
      rw [hat] at this; injection this with this; exact this.symm
    have hs := lowM_set l k c
    have hrow : ∀ v : UInt8, ((bytesPC (lowM l k)).map AV.p).take k ++ AV.p (u8P v) :: ((bytesPC (lowM l k)).map AV.p).drop (k + 1) = (bytesPC ((lowM l k).set k v)).map AV.p := fun v => by
      rw [← List.map_take, ← List.map_drop]
      simp only [bytesPC, ← List.map_take, ← List.map_drop]
      rw [List.set_eq_take_append_cons_drop, if_pos (by omega)]
      simp
    have hsame : lowO l[k] = l[k] → lowM l (k + 1) = lowM l k := fun e => by
      rw [← hs, e, ← hg]; exact List.set_getElem_self _
    by_cases a1 : 65 ≤ l[k].toNat
    · have b1 : (65 : Int) ≤ (l[k].toNat : Int) := by omega
      by_cases a2 : l[k].toNat ≤ 90
      · have b2 : (l[k].toNat : Int) ≤ 90 := by omega
        have w1 : IntKind.u8.wrap ((l[k].toNat : Int) + 97) = (l[k].toNat : Int) + 97 := wrapU8_id (by omega) (by omega)
        have w2 : IntKind.u8.wrap ((l[k].toNat : Int) + 97 - 65) = ((lowO l[k]).toNat : Int) := by
          rw [wrapU8_id (by omega) (by omega), lowO_nat _ a1 a2]; omega
        simp [c, hlen, hg, a1, b1, a2, b2, w1, w2]
        refine ⟨by omega, k + 1, by omega, by omega, leN_id ?_⟩
        simp [wrap64_id (n := (k : Int) + 1) (by omega) (by omega)]
        rw [← hs]
        have hr := hrow (lowO l[k])
        unfold u8P at hr
        rw [hr]
        exact List.prefix_refl _
      · have b2 : ¬ (l[k].toNat : Int) ≤ 90 := by omega
        have hl' : lowO l[k] = l[k] := by unfold lowO; rw [if_neg (by omega)]
        simp [c, hlen, hg, a1, b1, a2, b2]
        refine ⟨k + 1, by omega, by omega, leN_id ?_⟩
        simp [wrap64_id (n := (k : Int) + 1) (by omega) (by omega), hsame hl']
    · have b1 : ¬ (65 : Int) ≤ (l[k].toNat : Int) := by omega
      have hl' : lowO l[k] = l[k] := by unfold lowO; rw [if_neg (by omega)]
      simp [c, hlen, hg, a1, b1]
      refine ⟨k + 1, by omega, by omega, leN_id ?_⟩
      simp [wrap64_id (n := (k : Int) + 1) (by omega) (by omega), hsame hl']
  · obtain rfl : k = l.length := by omega
    simp
    have hM : lowM l l.length = lowB l := by simp [lowM, lowB]
    refine cv_of (lowB l) (by simp) (by simp) ?_ ?_
    · rw [hM]
      exact bor_byt (M := []) (by simp [lowB]) (by simp [lk])
    · simp [Tryz.results67]
end Go.Av

/-! part Z19 -/
namespace Go.Av
open Go.Proofs
set_option maxRecDepth 100000


def dig (c : UInt8) : Bool := decide (48 ≤ c.toNat) && decide (c.toNat ≤ 57)
def numS (most : Nat) (st : Nat × Bool) (c : UInt8) : Nat × Bool :=
  if st.2 = true ∨ (most - (c.toNat - 48)) / 10 < st.1 then (st.1, true) else (st.1 * 10 + (c.toNat - 48), false)
def numF (most : Nat) (l : List UInt8) : Nat × Bool := l.foldl (numS most) (0, false)
def numB (most : Nat) (l : List UInt8) : Int × Int := if l = [] ∨ l.all dig = false then (0, 10) else if (numF most l).2 = true then (0, 12) else ((numF most l).1, 0)
def dg10 : List UInt8 := [48, 49, 50, 51, 52, 53, 54, 55, 56, 57]
theorem all256 {p : UInt8 → Bool} (h : ((List.range 256).all fun n => p (UInt8.ofNat n)) = true) (c : UInt8) : p c = true := by
  have := List.all_eq_true.1 h c.toNat (List.mem_range.2 (UInt8.toNat_lt c))
  simpa using this
theorem dg10_ix (c : UInt8) : ixB dg10 (lowO c) = if dig c = true then (c.toNat : Int) - 48 else -1 := by
  have := all256 (p := fun c => decide (ixB dg10 (lowO c) = if dig c = true then (c.toNat : Int) - 48 else -1)) (by kernel_rfl) c
  simpa using this
theorem numF_snoc (most : Nat) (l : List UInt8) (k : Nat) (h : k < l.length) : numF most (l.take (k + 1)) = numS most (numF most (l.take k)) l[k] := by
  unfold numF; rw [List.take_succ_eq_append_getElem h, List.foldl_append]; rfl
theorem numS_le {most : Nat} {st : Nat × Bool} {c : UInt8} (h : st.1 ≤ most) (hc : dig c = true) (hm : 9 ≤ most) : (numS most st c).1 ≤ most := by
  unfold dig at hc; simp at hc
  unfold numS; split
  · exact h
  · rename_i hh
    simp at hh ⊢
    omega
theorem numF_le {most : Nat} {l : List UInt8} (h : l.all dig = true) (hm : 9 ≤ most) : (numF most l).1 ≤ most := by
  unfold numF
  have : ∀ (l : List UInt8) (st : Nat × Bool), l.all dig = true → st.1 ≤ most → (l.foldl (numS most) st).1 ≤ most := by
    intro l
    induction l with
    | nil => intro st _ h; exact h
    | cons a l ih =>
      intro st h1 h2
      simp only [List.all_cons, Bool.and_eq_true] at h1
      exact ih _ h1.2 (numS_le h2 h1.1 hm)
  exact this l _ h (by simp)
set_option maxHeartbeats 1000000 in
theorem number94 (l : List UInt8) (most : Nat) (hl : l.length ≤ 1000000000) (hm : 9 ≤ most) (hm2 : most ≤ 1000000000000) : PureC Tryz.prog 162 [.str l, .int 10, .int most] (.tp [.int (numB most l).1, .int (numB most l).2]) := by
  refine pure_of_aw (ys := [_, _]) [] [] [] mixed Tryz.func162 rfl (by kernel_rfl) (by kernel_rfl) (by simp [Tryz.ntmps162]) rfl ?_
  have hm0 : ¬ (most : Int) < 0 := by omega
  have hlow : (lowB l).length = l.length := by simp [lowB]
  simp [hm0]
  refine pcall_of (lower76 l hl) (by simp) ?_
  simp [hlow]
  refine ⟨by omega, ?_⟩
  refine aw_loop0 (fun k : Nat => k ≤ l.length ∧ (l.take k).all dig = true) (fun k => [(0, .p (.str l)), (1, .p (.int 10)), (2, .p (.int most)), (8, .p (.int (numF most (l.take k)).1)), (9, .p (.bool (numF most (l.take k)).2)),
    (17, .p (.sl (bytesPC (lowB l)))), (18, .p (.int l.length)), (19, .p (.int k))]) (fun k => l.length - k) 0 (by simp) (leN_id (by simp [numF])) ?_
  rintro k ⟨h1, h2⟩
  have hle := numF_le h2 hm
  by_cases c : k < l.length
  · have hlk : (lowB l)[k]'(by omega) = lowO l[k] := by simp [lowB]
    simp [c, hlow, hlk]
    refine pcall_of (sindex93 dg10 (lowO l[k])) (by simp [dg10]) ?_
    rw [dg10_ix]
    have hsn := numF_snoc most l k c
    have hall : (l.take (k + 1)).all dig = dig l[k] := by rw [List.take_succ_eq_append_getElem c, List.all_append, h2]; simp
    cases hd : dig l[k] with
    | false =>
      have hne : l ≠ [] := by intro e; subst e; simp at c
      have hnum : numB most l = (0, 10) := by
        unfold numB
        rw [if_pos]
        right
        rw [List.all_eq_false]
        exact ⟨l[k], List.getElem_mem c, by rw [hd]; simp⟩
      simp [hnum, Tryz.results162]
    | true =>
      have hd2 := hd
      unfold dig at hd2; simp at hd2
      rw [hd] at hall
      obtain ⟨d, hdd⟩ : ∃ d : Nat, d = l[k].toNat - 48 := ⟨_, rfl⟩
      have hdi : (l[k].toNat : Int) - 48 = (d : Int) := by omega
      generalize numF most (l.take k) = st at *
      obtain ⟨n, lg⟩ := st
      simp only at hle hsn ⊢
      have w1 : IntKind.i64.wrap ((most : Int) - (d : Int)) = ((most - d : Nat) : Int) := by rw [wrap64_id (by omega) (by omega)]; omega
      cases lg with
      | true =>
        have e1 : numF most (l.take (k + 1)) = (n, true) := by rw [hsn]; simp [numS]
        simp [hdi]
        refine ⟨k + 1, ⟨by omega, List.all_eq_true.1 hall⟩, by omega, leN_id ?_⟩
        simp [e1, wrap64_id (n := (k : Int) + 1) (by omega) (by omega)]
      | false =>
        have w2 : IntKind.i64.wrap (((most - d : Nat) : Int) / 10) = (((most - d) / 10 : Nat) : Int) := by rw [wrap64_id (by omega) (by omega)]; omega
        by_cases q : (most - d) / 10 < n
        · have q2 : ((most - d : Nat) : Int) / 10 < (n : Int) := by omega
          have e1 : numF most (l.take (k + 1)) = (n, true) := by rw [hsn]; simp [numS, ← hdd, q]
          simp [hdi, w1, w2, q, q2]
          refine ⟨k + 1, ⟨by omega, List.all_eq_true.1 hall⟩, by omega, leN_id ?_⟩
          simp [e1, wrap64_id (n := (k : Int) + 1) (by omega) (by omega)]
        · have q2 : ¬ ((most - d : Nat) : Int) / 10 < (n : Int) := by omega
          have q3 : ¬ (most : Int) < (d : Int) := by omega
          have e1 : numF most (l.take (k + 1)) = (n * 10 + d, false) := by rw [hsn]; simp [numS, ← hdd, q]
          have w3 : IntKind.i64.wrap ((n : Int) * 10) = ((n * 10 : Nat) : Int) := by rw [wrap64_id (by omega) (by omega)]; omega
          have w4 : IntKind.i64.wrap ((n : Int) * 10 + (d : Int)) = (n : Int) * 10 + (d : Int) := wrap64_id (by omega) (by omega)
          simp [hdi, w1, w2, q, q2, q3, w3]
          refine ⟨k + 1, ⟨by omega, List.all_eq_true.1 hall⟩, by omega, leN_id ?_⟩
          simp [e1, w4, wrap64_id (n := (k : Int) + 1) (by omega) (by omega)]
  · obtain rfl : k = l.length := by omega
    rw [List.take_length] at h2 hle ⊢
    unfold numB
    by_cases he : l = []
    · subst he; simp [Tryz.results162]
    · have hd : (l == []) = false := by simpa using he
      cases hb : (numF most l).2 with
      | true => simp [he, hd, hb, h2, Tryz.results162]
      | false => simp [he, hd, hb, h2, Tryz.results162]
theorem number60 (l : List UInt8) (most : Nat) (hl : l.length ≤ 1000000000) (hm : 9 ≤ most) (hm2 : most ≤ 1000000000000) : PureC Tryz.prog 129 [.str l, .int most] (.tp [.int (numB most l).1, .int (numB most l).2]) := by
  refine pure_of_aw (ys := [_, _]) [] [] [] mixed Tryz.func129 rfl (by kernel_rfl) (by kernel_rfl) (by simp [Tryz.ntmps129]) rfl ?_
  simp
  refine pcall_of (number94 l most hl hm hm2) (by simp) ?_
  simp [Tryz.results129]

def digN (c : UInt8) : Nat := if 48 ≤ c.toNat ∧ c.toNat ≤ 57 then c.toNat - 48 else if 97 ≤ c.toNat ∧ c.toNat ≤ 102 then c.toNat - 87 else if 65 ≤ c.toNat ∧ c.toNat ≤ 70 then c.toNat - 55 else 99
theorem digN_dig {c : UInt8} (h : dig c = true) : digN c = c.toNat - 48 := by
  unfold dig at h; simp at h; unfold digN; rw [if_pos h]
theorem digN_not {c : UInt8} (h : dig c = false) : 10 ≤ digN c := by
  unfold dig at h; simp at h; unfold digN; split
  · omega
  · split
    · omega
    · split <;> omega
theorem digit69 (c : UInt8) : PureC Tryz.prog 222 [u8P c] (.int (digN c)) := by
  refine pure_of_aw (ys := [_]) [] [] [] mixed Tryz.func222 rfl (by kernel_rfl) (by kernel_rfl) (by simp [Tryz.ntmps222]) rfl ?_
  have hlt := UInt8.toNat_lt c
  unfold digN u8P
  generalize c.toNat = k at *
  have w1 : 48 ≤ k → IntKind.i64.wrap ((k : Int) - 48) = ((k - 48 : Nat) : Int) := fun h => by rw [wrap64_id (by omega) (by omega)]; omega
  have w2 : 97 ≤ k → IntKind.i64.wrap ((k : Int) - 87) = ((k - 87 : Nat) : Int) := fun h => by rw [wrap64_id (by omega) (by omega)]; omega
  have w3 : 65 ≤ k → IntKind.i64.wrap ((k : Int) - 55) = ((k - 55 : Nat) : Int) := fun h => by rw [wrap64_id (by omega) (by omega)]; omega
  have w0 : IntKind.i64.wrap (k : Int) = (k : Int) := wrap64_id (by omega) (by omega)
  by_cases a1 : 48 ≤ k
  · have b1 : (48 : Int) ≤ (k : Int) := by omega
    by_cases a2 : k ≤ 57
    · have b2 : (k : Int) ≤ 57 := by omega
      simp [a1, a2, b1, b2, w0, w1 a1, Tryz.results222]
    · have b2 : ¬ (k : Int) ≤ 57 := by omega
      by_cases a3 : 97 ≤ k
      · have b3 : (97 : Int) ≤ (k : Int) := by omega
        by_cases a4 : k ≤ 102
        · have b4 : (k : Int) ≤ 102 := by omega
          simp [a1, a2, b1, b2, a3, a4, b3, b4, w0, w2 a3, Tryz.results222]
        · have b4 : ¬ (k : Int) ≤ 102 := by omega
          have a5 : 65 ≤ k := by omega
          have b5 : (65 : Int) ≤ (k : Int) := by omega
          have a6 : ¬ k ≤ 70 := by omega
          have b6 : ¬ (k : Int) ≤ 70 := by omega
          simp [a1, a2, b1, b2, a3, a4, b3, b4, a5, b5, a6, b6, Tryz.results222]
      · have b3 : ¬ (97 : Int) ≤ (k : Int) := by omega
        by_cases a5 : 65 ≤ k
        · have b5 : (65 : Int) ≤ (k : Int) := by omega
          by_cases a6 : k ≤ 70
          · have b6 : (k : Int) ≤ 70 := by omega
            simp [a1, a2, b1, b2, a3, b3, a5, b5, a6, b6, w0, w3 a5, Tryz.results222]
          · have b6 : ¬ (k : Int) ≤ 70 := by omega
            simp [a1, a2, b1, b2, a3, b3, a5, b5, a6, b6, Tryz.results222]
        · have b5 : ¬ (65 : Int) ≤ (k : Int) := by omega
          simp [a1, a2, b1, b2, a3, b3, a5, b5, Tryz.results222]
  · have b1 : ¬ (48 : Int) ≤ (k : Int) := by omega
    have a3 : ¬ 97 ≤ k := by omega
    have b3 : ¬ (97 : Int) ≤ (k : Int) := by omega
    have a5 : ¬ 65 ≤ k := by omega
    have b5 : ¬ (65 : Int) ≤ (k : Int) := by omega
    simp [a1, b1, a3, b3, a5, b5, Tryz.results222]
theorem rblank98 (c : UInt8) : PureC Tryz.prog 123 [u8P c] (.bool (blO c)) := by
  refine pure_of_aw (ys := [_]) [] [] [] mixed Tryz.func123 rfl (by kernel_rfl) (by kernel_rfl) (by simp [Tryz.ntmps123]) rfl ?_
  unfold blO u8P
  generalize c.toNat = k
  by_cases a1 : k = 32
  · subst a1
    simp [Tryz.results123]
  · have b1 : ((k : Int) == 32) = false := by simp; omega
    by_cases a3 : k = 9
    · subst a3
      simp [Tryz.results123]
    · have b3 : ((k : Int) == 9) = false := by simp; omega
      simp [a1, b1, a3, b3, Tryz.results123]
theorem numF_long (most : Nat) : ∀ (l : List UInt8) (st : Nat × Bool), st.2 = true → (l.foldl (numS most) st).2 = true
  | [], _, h => h
  | a :: l, st, h => by
    have e : numS most st a = (st.1, true) := by unfold numS; rw [if_pos (.inl h)]
    rw [List.foldl_cons, e]; exact numF_long most l _ rfl
theorem numF_longk (most : Nat) (l : List UInt8) (k : Nat) (h : (numF most (l.take k)).2 = true) : (numF most l).2 = true := by
  have e : numF most l = (l.drop k).foldl (numS most) (numF most (l.take k)) := by
    unfold numF; rw [← List.foldl_append, List.take_append_drop]
  rw [e]; exact numF_long most _ _ h
set_option maxHeartbeats 1000000 in
theorem rnumber30 (l : List UInt8) (most : Nat) (hl : l.length ≤ 1000000000) (hm : 9 ≤ most) (hm2 : most ≤ 1000000000000) : PureC Tryz.prog 176 [.str l, .int 10, .int most] (.tp [.int (numB most l).1, .int (numB most l).2]) := by
  refine pure_of_aw (ys := [_, _]) [] [] [] mixed Tryz.func176 rfl (by kernel_rfl) (by kernel_rfl) (by simp [Tryz.ntmps176]) rfl ?_
  have hm0 : ¬ (most : Int) < 0 := by omega
  by_cases hne : l = []
  · subst hne; simp [Tryz.results176, numB]
  have hpos : 0 < l.length := List.length_pos_iff.2 hne
  have hz0 : ((l.length : Int) == 0) = false := by simp; omega
  simp [hz0]
  refine aw_loop0 (fun k : Nat => k ≤ l.length ∧ (l.take k).all dig = true) (fun k => [(0, .p (.str l)), (1, .p (.int 10)), (2, .p (.int most)), (8, .p (.int k))]) (fun k => l.length - k) 0 (by simp) (leN_id (by simp)) ?_
  rintro k ⟨h1, h2⟩
  by_cases c : k < l.length
  · simp [c]
    refine pcall_of (digit69 l[k]) (by simp) ?_
    have hall : (l.take (k + 1)).all dig = dig l[k] := by rw [List.take_succ_eq_append_getElem c, List.all_append, h2]; simp
    cases hd : dig l[k] with
    | false =>
      have h10 := digN_not hd
      have h10' : (10 : Int) ≤ (digN l[k] : Int) := by omega
      have hnum : numB most l = (0, 10) := by
        unfold numB
        rw [if_pos]
        right
        rw [List.all_eq_false]
        exact ⟨l[k], List.getElem_mem c, by rw [hd]; simp⟩
      simp [h10, h10', hnum, Tryz.results176]
    | true =>
      have e := digN_dig hd
      rw [hd] at hall
      unfold dig at hd; simp at hd
      have h10' : ¬ (10 : Int) ≤ (digN l[k] : Int) := by omega
      have h10 : ¬ 10 ≤ digN l[k] := by omega
      simp [h10, h10']
      refine ⟨k + 1, ⟨by omega, List.all_eq_true.1 hall⟩, by omega, leN_id ?_⟩
      simp [wrap64_id (n := (k : Int) + 1) (by omega) (by omega)]
  · obtain rfl : k = l.length := by omega
    rw [List.take_length] at h2
    simp [hm0]
    refine aw_loop0 (fun k : Nat => k ≤ l.length ∧ (numF most (l.take k)).2 = false) (fun k => [(0, .p (.str l)), (1, .p (.int 10)), (2, .p (.int most)), (9, .p (.int (numF most (l.take k)).1)), (10, .p (.int k))]) (fun k => l.length - k) 0 (by simp [numF]) (leN_id (by simp [numF])) ?_
    rintro k ⟨h1, h3⟩
    have h2k : (l.take k).all dig = true := List.all_eq_true.2 fun x hx => List.all_eq_true.1 h2 x (List.mem_of_mem_take hx)
    have hle := numF_le h2k hm
    have hne' : ¬ (l = [] ∨ l.all dig = false) := by rw [h2]; simp [hne]
    by_cases c : k < l.length
    · have hd : dig l[k] = true := List.all_eq_true.1 h2 _ (List.getElem_mem c)
      have hdn := digN_dig hd
      unfold dig at hd; simp at hd
      have hsn := numF_snoc most l k c
      have hlong := numF_longk most l (k + 1)
      simp [c]
      refine pcall_of (digit69 l[k]) (by simp) ?_
      generalize numF most (l.take k) = st at *
      obtain ⟨n, lg⟩ := st
      simp only at h3 hle hsn ⊢
      subst h3
      obtain ⟨d, hdd⟩ : ∃ d : Nat, d = l[k].toNat - 48 := ⟨_, rfl⟩
      rw [hdn, ← hdd]
      have q3 : ¬ (most : Int) < (d : Int) := by omega
      have q4 : ¬ most < d := by omega
      have w1 : IntKind.i64.wrap ((most : Int) - (d : Int)) = ((most - d : Nat) : Int) := by rw [wrap64_id (by omega) (by omega)]; omega
      have w2 : IntKind.i64.wrap (((most - d : Nat) : Int) / 10) = (((most - d) / 10 : Nat) : Int) := by rw [wrap64_id (by omega) (by omega)]; omega
      by_cases q : (most - d) / 10 < n
      · have q2 : ((most - d : Nat) : Int) / 10 < (n : Int) := by omega
        have e1 : numF most (l.take (k + 1)) = (n, true) := by rw [hsn]; simp [numS, ← hdd, q]
        have e2 : numB most l = (0, 12) := by
          unfold numB; rw [if_neg hne', if_pos (hlong (by rw [e1]))]
        simp [w1, w2, q, q2, q3, q4, e2, Tryz.results176]
      · have q2 : ¬ ((most - d : Nat) : Int) / 10 < (n : Int) := by omega
        have e1 : numF most (l.take (k + 1)) = (n * 10 + d, false) := by rw [hsn]; simp [numS, ← hdd, q]
        have w3 : IntKind.i64.wrap ((n : Int) * 10) = ((n * 10 : Nat) : Int) := by rw [wrap64_id (by omega) (by omega)]; omega
        have w4 : IntKind.i64.wrap ((n : Int) * 10 + (d : Int)) = (n : Int) * 10 + (d : Int) := wrap64_id (by omega) (by omega)
        simp [w1, w2, q, q2, q3, q4, w3]
        refine ⟨k + 1, ⟨by omega, by rw [e1]⟩, by omega, leN_id ?_⟩
        simp [e1, w4, wrap64_id (n := (k : Int) + 1) (by omega) (by omega)]
    · obtain rfl : k = l.length := by omega
      rw [List.take_length] at h3 ⊢
      have e2 : numB most l = (((numF most l).1 : Int), 0) := by
        unfold numB; rw [if_neg hne', h3]; simp
      simp [e2, Tryz.results176]
end Go.Av

/-! part Z24 -/
namespace Go.Av
open Go.Proofs
set_option maxRecDepth 100000

theorem ixB_ge (l : List UInt8) (c : UInt8) : -1 ≤ ixB l c := by
  unfold ixB
  induction l with
  | nil => simp [Go.Lib.indexByte]
  | cons b l ih =>
    unfold Go.Lib.indexByte
    split
    · omega
    · split <;> omega

theorem ixB_cons (b : UInt8) (l : List UInt8) (c : UInt8) : ixB (b :: l) c = if b = c then 0 else if ixB l c < 0 then -1 else ixB l c + 1 := by
  have e1 := ixB_ge l c
  unfold ixB at *
  by_cases h : b = c
  · simp [Go.Lib.indexByte, h]
  · simp [Go.Lib.indexByte, h]
    by_cases hz : Go.Lib.indexByte l c = -1
    · simp [hz]
    · rw [if_neg hz, if_neg (by omega)]
theorem ixB_at (l : List UInt8) (c : UInt8) (h : 0 ≤ ixB l c) : l[(ixB l c).toNat]? = some c := by
  induction l with
  | nil => simp [ixB, Go.Lib.indexByte] at h
  | cons b l ih =>
    rw [ixB_cons] at h ⊢
    by_cases hb : b = c
    · simp [hb]
    · rw [if_neg hb] at h ⊢
      by_cases hh : ixB l c < 0
      · rw [if_pos hh] at h; omega
      · rw [if_neg hh] at h ⊢
        have e : (ixB l c + 1).toNat = (ixB l c).toNat + 1 := by omega
        rw [e, List.getElem?_cons_succ]
        exact ih (by omega)
end Go.Av

/-! part Z29 -/
namespace Go.Av
open Go.Proofs
set_option maxRecDepth 100000


theorem conv_l {P : Program} {s d : TypeId} {k : AV → Prop} {xs : List PC} (l : List UInt8) (h1 : isBytes P s = true) (h2 : isStr P d = true) (he : xs = bytesPC l) (hk : k (.p (.str l))) : convW P s d k (.p (.sl xs)) := ⟨h1, h2, l, he, hk⟩
/-- a figure -/
def dgc (d : Nat) : UInt8 := UInt8.ofNat (48 + d)
/-- a number's digits -/
def dec (n : Nat) : List UInt8 := if n < 10 then [dgc n] else dec (n / 10) ++ [dgc (n % 10)]
theorem dec_lt {n : Nat} (h : n < 10) : dec n = [dgc n] := by rw [dec, if_pos h]
theorem dec_ge {n : Nat} (h : ¬ n < 10) : dec n = dec (n / 10) ++ [dgc (n % 10)] := by rw [dec, if_neg h]
theorem digit_nat (d : Nat) (h : d < 10) : (dgc d).toNat = 48 + d := by
  unfold dgc; rw [UInt8.toNat_ofNat']; omega
theorem dec_pos (n : Nat) : dec n ≠ [] := by
  by_cases c : n < 10
  · rw [dec_lt c]; simp
  · rw [dec_ge c]; simp
set_option maxHeartbeats 1000000 in
theorem rprint29 (n : Int) (h1 : -9223372036854775808 ≤ n) (h2 : n ≤ 9223372036854775807) : PureC Tryz.prog 194 [.int n, .int 10] (.str (dec n.toNat)) := by
  refine pure_of_aw (ys := [_]) [] [] [] mixed Tryz.func194 rfl (by kernel_rfl) (by kernel_rfl) (by simp [Tryz.ntmps194]) rfl ?_
  by_cases c0 : n < 0
  · have e : n.toNat = 0 := by omega
    rw [e, dec_lt (by omega)]
    simp [c0]
    refine aw_loop0 (fun y : Nat => y = 0) (fun y => [(0, .p (.int 0)), (1, .p (.int 10)), (5, .p (.str []))]) (fun y => y) 0 rfl (leN_id (by simp)) ?_
    rintro y rfl
    have e0 : IntKind.u8.wrap 0 = 0 := by rfl
    have e1 : IntKind.u8.wrap 48 = 48 := by rfl
    have e2 : IntKind.i64.wrap 0 = 0 := by rfl
    have e3 : dgc 0 = 48 := by rfl
    simp [e0, e1, e2, e3]
    refine conv_l [48] (by simp) (by simp) rfl ?_
    simp [e2, Tryz.results194]
  · obtain ⟨N, rfl⟩ : ∃ N : Nat, n = N := ⟨n.toNat, by omega⟩
    simp only [Int.toNat_natCast]
    obtain ⟨R, hR⟩ : ∃ R, R = dec N := ⟨_, rfl⟩
    rw [← hR]
    simp [c0]
    refine aw_loop0 (fun y : Nat × List UInt8 => y.2.length + y.1 ≤ N ∧ (0 < y.1 ∨ y.2 = []) ∧ R = dec y.1 ++ y.2) (fun y => [(0, .p (.int y.1)), (1, .p (.int 10)), (5, .p (.str y.2))]) (fun y => y.1) (N, []) ⟨by simp, .inr rfl, by simp [hR]⟩ (leN_id (by simp)) ?_
    rintro ⟨m, s⟩ ⟨g1, g3, g2⟩
    simp only at g1 g2 g3
    have hsl : 1 + s.length ≤ 9223372036854775807 := by
      rcases g3 with h | rfl
      · omega
      · simp
    have w1 : (m : Int).tmod 10 = ((m % 10 : Nat) : Int) := Int.ofNat_tmod m 10
    have w2 : IntKind.u8.wrap ((m : Int) % 10) = (m : Int) % 10 := wrapU8_id (by omega) (by omega)
    have w3 : IntKind.u8.wrap (48 + (m : Int) % 10) = ((dgc (m % 10)).toNat : Int) := by
      rw [wrapU8_id (by omega) (by omega), digit_nat _ (by omega)]; omega
    have w4 : IntKind.i64.wrap ((m : Int) / 10) = (m : Int) / 10 := wrap64_id (by omega) (by omega)
    have d1 : (m : Int) % 10 < 10 := by omega
    have d2 : m % 10 < 10 := by omega
    simp [w1, w2, w3, w4, d1, d2]
    refine conv_l [dgc (m % 10)] (by simp) (by simp) rfl ?_
    simp [w4]
    by_cases c1 : m < 10
    · have e1 : (m : Int) / 10 = 0 := by omega
      have e2 : m % 10 = m := Nat.mod_eq_of_lt c1
      rw [g2, dec_lt c1]
      simp [e1, e2, hsl, Tryz.results194]
    · have e1 : ((m : Int) / 10 == 0) = false := by simp; omega
      simp [e1]
      refine ⟨hsl, m / 10, dgc (m % 10) :: s, ⟨by simp; omega, .inl (by omega), by rw [g2, dec_ge c1]; simp⟩, by omega, leN_id ?_⟩
      simp

def digs : List UInt8 := [48, 49, 50, 51, 52, 53, 54, 55, 56, 57, 97, 98, 99, 100, 101, 102]
theorem digs_at (d : Nat) (h : d < 10) : (digs.take (d + 1)).drop d = [dgc d] := by
  have : d = 0 ∨ d = 1 ∨ d = 2 ∨ d = 3 ∨ d = 4 ∨ d = 5 ∨ d = 6 ∨ d = 7 ∨ d = 8 ∨ d = 9 := by omega
  rcases this with rfl | rfl | rfl | rfl | rfl | rfl | rfl | rfl | rfl | rfl <;> rfl
set_option maxHeartbeats 1000000 in
theorem print71 (n : Int) (h1 : -9223372036854775808 ≤ n) (h2 : n ≤ 9223372036854775807) : PureC Tryz.prog 184 [.int n, .int 10] (.str (dec n.toNat)) := by
  refine pure_of_aw (ys := [_]) [] [] [] mixed Tryz.func184 rfl (by kernel_rfl) (by kernel_rfl) (by simp [Tryz.ntmps184]) rfl ?_
  obtain ⟨N, hN⟩ : ∃ N : Nat, (if (0 : Int) > n then 0 else n) = (N : Int) ∧ N = n.toNat := ⟨n.toNat, by split <;> omega, rfl⟩
  obtain ⟨hN, hN2⟩ := hN
  obtain ⟨R, hR⟩ : ∃ R, R = dec n.toNat := ⟨_, rfl⟩
  rw [← hR]
  rw [← hN2] at hR
  have hNb : N ≤ 9223372036854775807 := by omega
  have hN' : (if n < 0 then 0 else n) = (N : Int) := hN
  have m1 : (N : Int).tmod 10 = ((N % 10 : Nat) : Int) := Int.ofNat_tmod N 10
  have w1 : IntKind.i64.wrap ((N : Int) % 10 + 1) = ((N % 10 + 1 : Nat) : Int) := by rw [wrap64_id (by omega) (by omega)]; omega
  have T1 : ((N : Int) % 10).toNat = N % 10 := by omega
  have T2 : ((N : Int) % 10 + 1).toNat = N % 10 + 1 := by omega
  have dg : List.drop (N % 10) (48 :: List.take (N % 10) [49, 50, 51, 52, 53, 54, 55, 56, 57, 97, 98, 99, 100, 101, 102]) = [dgc (N % 10)] := digs_at (N % 10) (by omega)
  have w2 : IntKind.i64.wrap ((N : Int) / 10) = (N : Int) / 10 := wrap64_id (by omega) (by omega)
  simp [hN, hN', m1, w1, T1, T2, dg, w2]
  refine ⟨by omega, by omega, by omega, ?_⟩
  refine aw_loop0 (fun y : Nat × List UInt8 => y.2.length + y.1 ≤ N / 10 + 1 ∧ R = (if y.1 = 0 then y.2 else dec y.1 ++ y.2)) (fun y => [(0, .p (.int y.1)), (1, .p (.int 10)), (5, .p (.str y.2))]) (fun y => y.1) (N / 10, [dgc (N % 10)]) ⟨by simp; omega, ?_⟩ (leN_id (by simp)) ?_
  · simp only
    rw [hR]
    by_cases c : N < 10
    · rw [if_pos (by omega), dec_lt c, Nat.mod_eq_of_lt c]
    · rw [if_neg (by omega), dec_ge c]
  rintro ⟨m, s⟩ ⟨g1, g2⟩
  simp only at g1 g2
  by_cases c : m = 0
  · subst c
    rw [if_pos rfl] at g2
    simp [g2, Tryz.results184]
  · rw [if_neg c] at g2
    have c2 : (0 : Int) < (m : Int) := by omega
    have c3 : 0 < m := by omega
    have q1 : (m : Int).tmod 10 = ((m % 10 : Nat) : Int) := Int.ofNat_tmod m 10
    have q2 : IntKind.i64.wrap ((m : Int) % 10 + 1) = ((m % 10 + 1 : Nat) : Int) := by rw [wrap64_id (by omega) (by omega)]; omega
    have q3 : ((m : Int) % 10).toNat = m % 10 := by omega
    have q4 : ((m : Int) % 10 + 1).toNat = m % 10 + 1 := by omega
    have q5 : List.drop (m % 10) (48 :: List.take (m % 10) [49, 50, 51, 52, 53, 54, 55, 56, 57, 97, 98, 99, 100, 101, 102]) = [dgc (m % 10)] := digs_at (m % 10) (by omega)
    have hd1 : min (m % 10) 15 + 1 - m % 10 = 1 := by omega
    have q6 : IntKind.i64.wrap ((m : Int) / 10) = (m : Int) / 10 := wrap64_id (by omega) (by omega)
    simp [c2, c3, q1, q2, q3, q4, q5, q6, hd1]
    refine ⟨by omega, by omega, by omega, by omega, m / 10, dgc (m % 10) :: s, ⟨by simp; omega, ?_⟩, by omega, leN_id (by simp)⟩
    by_cases c1 : m < 10
    · rw [if_pos (by omega), g2, dec_lt c1, Nat.mod_eq_of_lt c1]; rfl
    · rw [if_neg (by omega), g2, dec_ge c1]; simp
end Go.Av
