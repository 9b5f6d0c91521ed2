/- What the searches for octets, strings.Split, octet.Token and the document's tokens compute, for every text. -/
import Derived.Test.YtffoncjofjgojaaGreatDoorTf
import Derived.Lib.BytesEntry
import Derived.Lib.Bytealg
set_option linter.all false
/-! part Z01 -/
namespace Go.Av
open Go.Proofs
set_option maxRecDepth 100000


theorem mixed : Tryz.prog.follows .mixedOrders = true := by kernel_rfl
/-- the first place of an octet; -1: nowhere -/
abbrev ixB (l : List UInt8) (c : UInt8) : Int := Go.Lib.indexByte l c
theorem u8_back (c : UInt8) : ((c.toNat : Int)).toNat.toUInt8 = c := by simp
theorem ext137 (l : List UInt8) (c : UInt8) : ExtC Tryz.prog 214 [.str l, .sc (.int .u8 c.toNat)] (.int (ixB l c)) := by
  refine ⟨Tryz.f214, Extern.BytealgIndexByte.indexByte, Tryz.func214, by kernel_rfl, by kernel_rfl, by kernel_rfl, by kernel_rfl, ?_⟩
  intro M w vs hH hr
  cases hr with
  | cons h1 hs =>
    cases hs with
    | cons h2 hs =>
      cases hs
      have h1 := y_nil_sc (.p (g := ⟨M, fun _ => none, fun _ => none⟩) h1)
      have h2 := y_nil_sc (.p (g := ⟨M, fun _ => none, fun _ => none⟩) h2)
      subst h1; subst h2
      refine ⟨.int .i64 (ixB l c), ?_, .sc _ rfl⟩
      have := Go.Lib.run_indexByteString (P := Tryz.prog) ⟨l.toArray⟩ (c.toNat : Int) w
      rw [u8_back] at this
      exact this
theorem ext135 (l : List UInt8) (c : UInt8) : ExtC Tryz.prog 245 [.str l, .sc (.int .u8 c.toNat)] (.int (l.count c)) := by
  refine ⟨Tryz.f245, Extern.BytealgCount.count, Tryz.func245, by kernel_rfl, by kernel_rfl, by kernel_rfl, by kernel_rfl, ?_⟩
  intro M w vs hH hr
  cases hr with
  | cons h1 hs =>
    cases hs with
    | cons h2 hs =>
      cases hs
      have h1 := y_nil_sc (.p (g := ⟨M, fun _ => none, fun _ => none⟩) h1)
      have h2 := y_nil_sc (.p (g := ⟨M, fun _ => none, fun _ => none⟩) h2)
      subst h1; subst h2
      refine ⟨.int .i64 (l.count c), ?_, .sc _ rfl⟩
      have := Go.Lib.run_countString (P := Tryz.prog) ⟨l.toArray⟩ (c.toNat : Int) w
      rw [u8_back] at this
      exact this
theorem lindex114 (l : List UInt8) (c : UInt8) : PureC Tryz.prog 163 [.str l, .sc (.int .u8 c.toNat)] (.int (ixB l c)) := by
  refine pure_of_aw (ys := [_]) [] [] [] mixed Tryz.func163 rfl (by kernel_rfl) (by kernel_rfl) (by simp [Tryz.ntmps163]) rfl ?_
  simp
  refine ecall_of (ext137 l c) (by simp) ?_
  simp [Tryz.results163]
theorem sindex93 (l : List UInt8) (c : UInt8) : PureC Tryz.prog 133 [.str l, .sc (.int .u8 c.toNat)] (.int (ixB l c)) := by
  refine pure_of_aw (ys := [_]) [] [] [] mixed Tryz.func133 rfl (by kernel_rfl) (by kernel_rfl) (by simp [Tryz.ntmps133]) rfl ?_
  simp
  refine pcall_of (lindex114 l c) (by simp) ?_
  simp [Tryz.results133]

theorem ixB_self (c : UInt8) : ixB [c] c = 0 := by simp [ixB, Go.Lib.indexByte]
theorem index136 (l : List UInt8) (c : UInt8) : PureC Tryz.prog 186 [.str l, .str [c]] (.int (ixB l c)) := by
  refine pure_of_aw (ys := [_]) [] [] [] mixed Tryz.func186 rfl (by kernel_rfl) (by kernel_rfl) (by simp [Tryz.ntmps186]) rfl ?_
  by_cases h : [c] = l
  · subst h
    simp [Tryz.results186, ixB_self]
  · have hd : ([c] == l) = false := by simpa using h
    simp [h, hd]
    refine pcall_of (lindex114 l c) (by simp) ?_
    simp [Tryz.results186]
theorem index113 (l : List UInt8) (c : UInt8) : PureC Tryz.prog 242 [.str l, .str [c]] (.int (ixB l c)) := by
  refine pure_of_aw (ys := [_]) [] [] [] mixed Tryz.func242 rfl (by kernel_rfl) (by kernel_rfl) (by simp [Tryz.ntmps242]) rfl ?_
  simp
  refine pcall_of (index136 l c) (by simp) ?_
  simp [Tryz.results242]
theorem count112 (l : List UInt8) (c : UInt8) : PureC Tryz.prog 201 [.str l, .str [c]] (.int (l.count c)) := by
  refine pure_of_aw (ys := [_]) [] [] [] mixed Tryz.func201 rfl (by kernel_rfl) (by kernel_rfl) (by simp [Tryz.ntmps201]) rfl ?_
  simp
  refine ecall_of (ext135 l c) (by simp) ?_
  simp [Tryz.results201]

theorem ixB_eq {l : List UInt8} {c : UInt8} {k : Nat} (hk : k < l.length) (h1 : ∀ x ∈ l.take k, x ≠ c) (h2 : l[k] = c) : ixB l c = k := by
  unfold ixB
  induction l generalizing k with
  | nil => simp at hk
  | cons a l ih =>
    cases k with
    | zero => simp at h2; simp [Go.Lib.indexByte, h2]
    | succ k =>
      have ha : a ≠ c := h1 a (by simp)
      have := ih (k := k) (by simpa using hk) (fun x hx => h1 x (by simp [hx])) (by simpa using h2)
      simp [Go.Lib.indexByte, ha, this]
      try omega
end Go.Av

/-! part Z03 -/
namespace Go.Av
open Go.Proofs
set_option maxRecDepth 100000


/-- pieces between an octet's places, so many at most, and the rest -/
def splB (c : UInt8) : Nat → List UInt8 → List (List UInt8)
  | 0, l => [l]
  | k + 1, l => if ixB l c < 0 then [l] else l.take (ixB l c).toNat :: splB c k (l.drop ((ixB l c).toNat + 1))
@[simp] theorem lims_rep {m n : Nat} {x : PC} : AV.lim.lims m (List.replicate n (.p x)) = true := by
  rw [← List.map_replicate]; exact lims_p
@[simp] theorem rens_rep {ρ : Nat → Nat} {n : Nat} {x : PC} : AV.ren.rens ρ (List.replicate n (.p x)) = List.replicate n (.p x) := by
  rw [← List.map_replicate]; exact rens_p
theorem ixB_lt (l : List UInt8) (c : UInt8) : ixB l c < l.length := by
  unfold ixB
  induction l with
  | nil => simp [Go.Lib.indexByte]
  | cons b l ih =>
    unfold Go.Lib.indexByte
    split
    · simp
      try omega
    · split
      · simp
        try omega
      · simp at ih ⊢; omega
abbrev rowStr (L : List (List UInt8)) : Ob := ⟨9, 1, (L.map PC.str).map .p⟩
set_option maxHeartbeats 4000000 in
set_option maxRecDepth 100000 in
theorem genSplit89g (l : List UInt8) (c : UInt8) (n : Int) (hn : n ≠ 0) (hl : l.length ≤ 1000000) (hb : n ≤ 1000000000) (K : Nat) (hK : (K : Int) = min (if n < 0 then (l.count c : Int) + 1 else n) (l.length + 1)) :
    GenC Tryz.prog 235 [.p (.str l), .p (.str [c]), .p (.int 0), .p (.int n)] ⟨[], [], 0⟩ (.view 0 0 (splB c (K - 1) l).length 1 (some K)) ⟨[(0, rowStr (splB c (K - 1) l ++ List.replicate (K - (splB c (K - 1) l).length) []))], [], 1⟩ := by
  have hc : l.count c ≤ l.length := List.count_le_length
  have hK1 : 1 ≤ K := by split at hK <;> omega
  have hKb : K ≤ 1000001 := by omega
  have hn' : (n == 0) = false := by simpa using hn
  have hw3 : IntKind.i64.wrap ((K : Int) - 1) = ((K - 1 : Nat) : Int) := by rw [wrap64_id (by omega) (by omega)]; omega
  have g1 : 16 * K ≤ 281474976710656 := by omega
  have g2 : K ≤ maxLen := by unfold maxLen; omega
  have w2 : IntKind.i64.wrap ((l.length : Int) + 1) = (l.length : Int) + 1 := wrap64_id (by omega) (by omega)
  refine gen_of_aw (rs := [_]) [] [] [] mixed Tryz.func235 rfl (by kernel_rfl) (by kernel_rfl) (by simp [Tryz.ntmps235]) rfl ?_
  by_cases h : n < 0
  · rw [if_pos h] at hK
    have hKe : (l.count c : Int) + 1 = (K : Int) := by omega
    have hnc : ¬ l.length < l.count c := by omega
    have hnc2 : ¬ (l.length : Int) + 1 < (K : Int) := by omega
    have w1 : IntKind.i64.wrap ((l.count c : Int) + 1) = (K : Int) := by rw [hKe, wrap64_id (by omega) (by omega)]
    simp [hn', h]
    refine pcall_of (count112 l c) (by simp) ?_
    simp [w1, w2, hnc2, hw3, g1, g2]
    refine aw_loop (fun y : List (List UInt8) × List UInt8 => y.1.length + 1 ≤ K ∧ y.2.length ≤ l.length ∧ splB c (K - 1) l = y.1 ++ splB c (K - 1 - y.1.length) y.2)
      (fun y => [(0, .p (.str y.2)), (1, .p (.str [c])), (2, .p (.int 0)), (3, .p (.int ((K - 1 : Nat) : Int))), (9, .view 0 0 K 1 (some K)), (10, .p (.int y.1.length))])
      (fun y => ⟨[(0, rowStr (y.1 ++ List.replicate (K - y.1.length) []))], [], 1⟩) (fun y => K - y.1.length) ([], l) ⟨by simpa using hK1, by simp, by simp⟩ _
      (AS.le_refl _ _) (leN_id (by simp [hw3])) ?_
    rintro ⟨dn, s⟩ ⟨h1, h2, h3⟩
    simp only at h1 h2 h3
    have fin : splB c (K - 1 - dn.length) s = [s] → splB c (K - 1) l = dn ++ [s] := fun e => by rw [h3, e]
    have hK2 : dn.length ≤ K := by omega
    have hlt : (dn.length : Int) < (K : Int) := by omega
    have hdr : (List.map (AV.p ∘ PC.str) dn ++ List.replicate (K - dn.length) (AV.p (PC.str []))).drop (dn.length + 1) = List.replicate (K - (dn.length + 1)) (AV.p (PC.str [])) := by
      rw [List.drop_append, List.drop_eq_nil_of_le (by simp), List.drop_replicate]; simp; omega
    have hlt2 : dn.length < K := by omega
    have hlt3 : 1 ≤ K - dn.length := by omega
    have hlt4 : dn.length + 1 ≤ K := by omega
    have i1 : (0 : Int) ≤ (dn.length : Int) + 1 := by omega
    have i2 : (dn.length : Int) + 1 ≤ (K : Int) := by omega
    have i3 : ((dn.length : Int) + 1).toNat = dn.length + 1 := by omega
    have wi : IntKind.i64.wrap ((dn.length : Int) + 1) = ((dn.length + 1 : Nat) : Int) := by rw [wrap64_id (by omega) (by omega)]; simp
    have hlen : dn.length + (K - dn.length) = K := by omega
    by_cases c0 : dn.length < K - 1
    · have c0' : (dn.length : Int) < ((K - 1 : Nat) : Int) := by omega
      simp [c0, c0']
      refine pcall_of (index113 s c) (by simp) ?_
      obtain ⟨k, hk⟩ : ∃ k, K - 1 - dn.length = k + 1 := ⟨K - 1 - dn.length - 1, by omega⟩
      by_cases c1 : ixB s c < 0
      · have e := fin (by rw [hk, splB, if_pos c1])
        rw [e]
        simp [c1, wi, hdr, hlt2, hlt3, hlt4, i1, i2, i3, Tryz.results235]
        exact ⟨[], by simp [hdr]⟩
      · have hx := ixB_lt s c
        rw [hk, splB, if_neg c1] at h3
        obtain ⟨m, hm⟩ : ∃ m : Nat, ixB s c = m := ⟨(ixB s c).toNat, by omega⟩
        rw [hm] at h3 hx ⊢
        have hms : m < s.length := by omega
        have wm : IntKind.i64.wrap (m : Int) = (m : Int) := wrap64_id (by omega) (by omega)
        have wm1 : IntKind.i64.wrap ((m : Int) + 1) = ((m + 1 : Nat) : Int) := by rw [wrap64_id (by omega) (by omega)]; simp
        have hm1 : m ≤ s.length := by omega
        have hm2 : m + 1 ≤ s.length := by omega
        have j1 : (0 : Int) ≤ (m : Int) + 1 := by omega
        have j2 : (m : Int) + 1 ≤ (s.length : Int) := by omega
        have j3 : ((m : Int) + 1).toNat = m + 1 := by omega
        simp [wm, wm1, wi, hdr, hlt2, hlt3, hlt4, i1, i2, i3, j1, j2, j3, hm1, hm2]
        refine ⟨dn ++ [s.take m], s.drop (m + 1), ⟨by simp; omega, by simp; omega, ?_⟩, by simp; omega, leN_id ?_⟩
        · rw [h3]
          simp [show K - 1 - (dn.length + 1) = k by omega]
        · simp [hdr]
    · have e := fin (by rw [show K - 1 - dn.length = 0 by omega, splB])
      have c0' : ¬ (dn.length : Int) < ((K - 1 : Nat) : Int) := by omega
      rw [e]
      simp [c0, c0', wi, hdr, hlt2, hlt3, hlt4, i1, i2, i3, Tryz.results235]
      exact ⟨[], by simp [hdr]⟩
  · rw [if_neg h] at hK
    have hmn : (if (l.length : Int) + 1 < n then (l.length : Int) + 1 else n) = (K : Int) := by split <;> omega
    simp [hn', h, w2, hmn, hw3, g1, g2]
    refine aw_loop (fun y : List (List UInt8) × List UInt8 => y.1.length + 1 ≤ K ∧ y.2.length ≤ l.length ∧ splB c (K - 1) l = y.1 ++ splB c (K - 1 - y.1.length) y.2)
      (fun y => [(0, .p (.str y.2)), (1, .p (.str [c])), (2, .p (.int 0)), (3, .p (.int ((K - 1 : Nat) : Int))), (9, .view 0 0 K 1 (some K)), (10, .p (.int y.1.length))])
      (fun y => ⟨[(0, rowStr (y.1 ++ List.replicate (K - y.1.length) []))], [], 1⟩) (fun y => K - y.1.length) ([], l) ⟨by simpa using hK1, by simp, by simp⟩ _
      (AS.le_refl _ _) (leN_id (by simp [hw3])) ?_
    rintro ⟨dn, s⟩ ⟨h1, h2, h3⟩
    simp only at h1 h2 h3
    have fin : splB c (K - 1 - dn.length) s = [s] → splB c (K - 1) l = dn ++ [s] := fun e => by rw [h3, e]
    have hK2 : dn.length ≤ K := by omega
    have hlt : (dn.length : Int) < (K : Int) := by omega
    have hdr : (List.map (AV.p ∘ PC.str) dn ++ List.replicate (K - dn.length) (AV.p (PC.str []))).drop (dn.length + 1) = List.replicate (K - (dn.length + 1)) (AV.p (PC.str [])) := by
      rw [List.drop_append, List.drop_eq_nil_of_le (by simp), List.drop_replicate]; simp; omega
    have hlt2 : dn.length < K := by omega
    have hlt3 : 1 ≤ K - dn.length := by omega
    have hlt4 : dn.length + 1 ≤ K := by omega
    have i1 : (0 : Int) ≤ (dn.length : Int) + 1 := by omega
    have i2 : (dn.length : Int) + 1 ≤ (K : Int) := by omega
    have i3 : ((dn.length : Int) + 1).toNat = dn.length + 1 := by omega
    have wi : IntKind.i64.wrap ((dn.length : Int) + 1) = ((dn.length + 1 : Nat) : Int) := by rw [wrap64_id (by omega) (by omega)]; simp
    have hlen : dn.length + (K - dn.length) = K := by omega
    by_cases c0 : dn.length < K - 1
    · have c0' : (dn.length : Int) < ((K - 1 : Nat) : Int) := by omega
      simp [c0, c0']
      refine pcall_of (index113 s c) (by simp) ?_
      obtain ⟨k, hk⟩ : ∃ k, K - 1 - dn.length = k + 1 := ⟨K - 1 - dn.length - 1, by omega⟩
      by_cases c1 : ixB s c < 0
      · have e := fin (by rw [hk, splB, if_pos c1])
        rw [e]
        simp [c1, wi, hdr, hlt2, hlt3, hlt4, i1, i2, i3, Tryz.results235]
        exact ⟨[], by simp [hdr]⟩
      · have hx := ixB_lt s c
        rw [hk, splB, if_neg c1] at h3
        obtain ⟨m, hm⟩ : ∃ m : Nat, ixB s c = m := ⟨(ixB s c).toNat, by omega⟩
        rw [hm] at h3 hx ⊢
        have hms : m < s.length := by omega
        have wm : IntKind.i64.wrap (m : Int) = (m : Int) := wrap64_id (by omega) (by omega)
        have wm1 : IntKind.i64.wrap ((m : Int) + 1) = ((m + 1 : Nat) : Int) := by rw [wrap64_id (by omega) (by omega)]; simp
        have hm1 : m ≤ s.length := by omega
        have hm2 : m + 1 ≤ s.length := by omega
        have j1 : (0 : Int) ≤ (m : Int) + 1 := by omega
        have j2 : (m : Int) + 1 ≤ (s.length : Int) := by omega
        have j3 : ((m : Int) + 1).toNat = m + 1 := by omega
        simp [wm, wm1, wi, hdr, hlt2, hlt3, hlt4, i1, i2, i3, j1, j2, j3, hm1, hm2]
        refine ⟨dn ++ [s.take m], s.drop (m + 1), ⟨by simp; omega, by simp; omega, ?_⟩, by simp; omega, leN_id ?_⟩
        · rw [h3]
          simp [show K - 1 - (dn.length + 1) = k by omega]
        · simp [hdr]
    · have e := fin (by rw [show K - 1 - dn.length = 0 by omega, splB])
      have c0' : ¬ (dn.length : Int) < ((K - 1 : Nat) : Int) := by omega
      rw [e]
      simp [c0, c0', wi, hdr, hlt2, hlt3, hlt4, i1, i2, i3, Tryz.results235]
      exact ⟨[], by simp [hdr]⟩

theorem flat_one {l : List PC} (h : ∀ x ∈ l, pcs x = [x]) : l.flatMap pcs = l := by
  induction l with
  | nil => rfl
  | cons x l ih => rw [List.flatMap_cons, h x (by simp), ih fun y hy => h y (by simp [hy])]; rfl
/-- a row's beginning, lent -/
theorem bor_str {bx : List (Nat × Ob)} {k id : Nat} {c : Option Nat} {L M : List (List UInt8)} (h : lk id bx = some (rowStr (L ++ M))) : borF bx (k + 1) (.view id 0 L.length 1 c) (.sl (L.map PC.str)) := by
  refine ⟨_, h, by first | omega | rfl, by simp, by simp, ?_, ?_, ?_⟩
  · rw [flat_pcs, flat_one (fun x hx => by obtain ⟨_, _, rfl⟩ := List.mem_map.1 hx; rfl)]
    simp
    try (rw [List.take_append_of_le_length (by simp)]; exact List.take_of_length_le (by simp))
  · intro y hy; obtain ⟨e, _, rfl⟩ := List.mem_map.1 hy; rfl
  · intro y hy; obtain ⟨e, _, rfl⟩ := List.mem_map.1 hy; rfl
theorem genSplit89 (l : List UInt8) (c : UInt8) (n : Int) (hn : n ≠ 0) (hl : l.length ≤ 1000000) (hb : n ≤ 1000000000) (K : Nat) (hK : (K : Int) = min (if n < 0 then (l.count c : Int) + 1 else n) (l.length + 1)) :
    PureC Tryz.prog 235 [.str l, .str [c], .int 0, .int n] (.sl ((splB c (K - 1) l).map PC.str)) :=
  pure_of_gen (genSplit89g l c n hn hl hb K hK) (bor_str (M := List.replicate (K - (splB c (K - 1) l).length) []) (by simp [lk]))
theorem split51 (l : List UInt8) (c : UInt8) (hl : l.length ≤ 1000000) : PureC Tryz.prog 192 [.str l, .str [c]] (.sl ((splB c (l.count c) l).map PC.str)) := by
  have hc : l.count c ≤ l.length := List.count_le_length
  have h := genSplit89 l c (-1) (by omega) hl (by omega) (l.count c + 1) (by rw [if_pos (by omega)]; omega)
  refine pure_of_aw (ys := [_]) [] [] [] mixed Tryz.func192 rfl (by kernel_rfl) (by kernel_rfl) (by simp [Tryz.ntmps192]) rfl ?_
  simp
  refine pcall_of h (by simp) ?_
  simp [Tryz.results192]
end Go.Av

/-! part Z05 -/
namespace Go.Av
open Go.Proofs
set_option maxRecDepth 100000


abbrev u8P (c : UInt8) : PC := .sc (.int .u8 c.toNat)
def letB (c : UInt8) : Bool := (decide (97 ≤ c.toNat) && decide (c.toNat ≤ 122)) || ((decide (65 ≤ c.toNat) && decide (c.toNat ≤ 90)) || (decide (48 ≤ c.toNat) && decide (c.toNat ≤ 57)))
def plnB (c : UInt8) : Bool := (decide (32 ≤ c.toNat) && !decide (c.toNat = 127)) || decide (c.toNat = 9)
def marks : List UInt8 := [33, 35, 36, 37, 38, 39, 42, 43, 45, 46, 94, 95, 96, 124, 126]
def tokB (c : UInt8) : Bool := letB c || decide (0 ≤ ixB marks c)
theorem letter92 (c : UInt8) : PureC Tryz.prog 132 [u8P c] (.bool (letB c)) := by
  refine pure_of_aw (ys := [_]) [] [] [] mixed Tryz.func132 rfl (by kernel_rfl) (by kernel_rfl) (by simp [Tryz.ntmps132]) rfl ?_
  unfold letB u8P
  generalize c.toNat = k
  by_cases a1 : 97 ≤ k
  · have b1 : (97 : Int) ≤ (k : Int) := by omega
    by_cases a2 : k ≤ 122
    · have b2 : (k : Int) ≤ 122 := by omega
      simp [a1, a2, b1, b2, Tryz.results132]
    · have b2 : ¬ (k : Int) ≤ 122 := by omega
      have b3 : (65 : Int) ≤ (k : Int) := by omega
      have b4 : ¬ (k : Int) ≤ 90 := by omega
      have b5 : (48 : Int) ≤ (k : Int) := by omega
      have b6 : ¬ (k : Int) ≤ 57 := by omega
      simp [a1, a2, b1, b2, b3, b4, b5, b6, show 65 ≤ k by omega, show ¬ k ≤ 90 by omega, show 48 ≤ k by omega, show ¬ k ≤ 57 by omega, Tryz.results132]
  · have b1 : ¬ (97 : Int) ≤ (k : Int) := by omega
    by_cases a3 : 65 ≤ k
    · have b3 : (65 : Int) ≤ (k : Int) := by omega
      by_cases a4 : k ≤ 90
      · have b4 : (k : Int) ≤ 90 := by omega
        simp [a1, a3, a4, b1, b3, b4, Tryz.results132]
      · have b4 : ¬ (k : Int) ≤ 90 := by omega
        have b5 : (48 : Int) ≤ (k : Int) := by omega
        have b6 : ¬ (k : Int) ≤ 57 := by omega
        simp [a1, a3, a4, b1, b3, b4, b5, b6, show 48 ≤ k by omega, show ¬ k ≤ 57 by omega, Tryz.results132]
    · have b3 : ¬ (65 : Int) ≤ (k : Int) := by omega
      by_cases a5 : 48 ≤ k
      · have b5 : (48 : Int) ≤ (k : Int) := by omega
        by_cases a6 : k ≤ 57
        · have b6 : (k : Int) ≤ 57 := by omega
          simp [a1, a3, a5, a6, b1, b3, b5, b6, Tryz.results132]
        · have b6 : ¬ (k : Int) ≤ 57 := by omega
          simp [a1, a3, a5, a6, b1, b3, b5, b6, Tryz.results132]
      · have b5 : ¬ (48 : Int) ≤ (k : Int) := by omega
        simp [a1, a3, a5, b1, b3, b5, Tryz.results132]
theorem tok91 (c : UInt8) : PureC Tryz.prog 131 [u8P c] (.bool (tokB c)) := by
  refine pure_of_aw (ys := [_]) [] [] [] mixed Tryz.func131 rfl (by kernel_rfl) (by kernel_rfl) (by simp [Tryz.ntmps131]) rfl ?_
  unfold tokB
  simp
  refine pcall_of (letter92 c) (by simp) ?_
  cases letB c with
  | true => simp [Tryz.results131]
  | false =>
    simp
    refine pcall_of (sindex93 marks c) (by simp [marks]) ?_
    simp [Tryz.results131]
theorem all90 {g : FuncId} (q : UInt8 → Bool) (l : List UInt8) (hl : l.length ≤ 1000000000) (hq : ∀ c, PureC Tryz.prog g [u8P c] (.bool (q c))) : PureC Tryz.prog 130 [.str l, .fn (.func g) []] (.bool (l.all q)) := by
  refine pure_of_aw (ys := [_]) [] [] [] mixed Tryz.func130 rfl (by kernel_rfl) (by kernel_rfl) (by simp [Tryz.ntmps130]) rfl ?_
  simp
  refine aw_loop0 (fun k : Nat => k ≤ l.length ∧ l.all q = (l.drop k).all q) (fun k => [(0, .p (.str l)), (1, .p (.fn (.func g) [])), (7, .p (.int l.length)), (8, .p (.int k))]) (fun k => l.length - k) 0 (by simp) (leN_id (by simp)) ?_
  rintro k ⟨h1, h2⟩
  by_cases c : k < l.length
  · rw [List.drop_eq_getElem_cons c, List.all_cons] at h2
    simp [c]
    refine pcall_of (hq l[k]) (by simp) ?_
    cases hz : q l[k] with
    | true =>
      rw [hz] at h2
      simp
      refine ⟨k + 1, ⟨by omega, by simpa using h2⟩, by omega, leN_id ?_⟩
      simp [wrap64_id (n := (k : Int) + 1) (by omega) (by omega)]
    | false =>
      rw [hz, Bool.false_and] at h2
      simp [h2, Tryz.results130]
  · obtain rfl : k = l.length := by omega
    rw [List.drop_length, List.all_nil] at h2
    simp [h2, Tryz.results130]
theorem token52 (l : List UInt8) (hl : l.length ≤ 1000000000) : PureC Tryz.prog 89 [.str l] (.bool (decide (l ≠ []) && l.all tokB)) := by
  refine pure_of_aw (ys := [_]) [] [] [] mixed Tryz.func89 rfl (by kernel_rfl) (by kernel_rfl) (by simp [Tryz.ntmps89]) rfl ?_
  by_cases h : l = []
  · subst h
    simp [Tryz.results89]
  · have hd : (l != []) = true := by simpa using h
    simp [h, hd]
    refine pcall_of (all90 tokB l hl tok91) (by simp) ?_
    simp [Tryz.results89]
@[simp] theorem bytesPC_get (l : List UInt8) (k : Nat) (h : k < (bytesPC l).length) : (bytesPC l)[k] = .sc (.int .u8 (l[k]'(by simpa using h)).toNat) := by simp [bytesPC]
def tkB (l : List UInt8) : Bool := decide (l ≠ []) && l.all tokB

end Go.Av
