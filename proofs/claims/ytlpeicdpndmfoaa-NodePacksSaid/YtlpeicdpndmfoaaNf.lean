/- What Unpack computes, in the program and by definition, and that what is packed is unpacked. -/
import Derived.Test.YtlpeicdpndmfoaaNe
set_option linter.all false
/-! part N17ze -/
namespace Go.Av
open Go.Proofs

/-- a reader with so many octets left -/
abbrev rdrO (b : List UInt8) (short : Bool) : Ob := ⟨73, 2, [.p (.sl (bytesPC b)), .p (.bool short)]⟩

/-- enough is left -/
theorem take54 (nx id : Nat) (hid : id < nx) (b : List UInt8) (n : Nat) (hn : n ≤ b.length) (hb : b.length ≤ 9223372036854775807) :
    GenC Try.prog 54 [.obj id 0, .p (.int n)] ⟨[(id, rdrO b false)], [], nx⟩ (.p (.sl (bytesPC (b.take n)))) ⟨[(id, rdrO (b.drop n) false)], [], nx⟩ := by
  have e1 : ¬ b.length < n := by omega
  refine gen_of_aw (rs := [_]) [] [] [] mixed Try.func54 rfl (by kernel_rfl) (by kernel_rfl) (by simp [Try.ntmps54]) rfl ?_
  simp [bytesPC_len, e1, hn, Try.results54]
  refine ⟨fun y hy => ((bytes_bor b).2.1 y hy).symm, ⟨[], by simp [hid, bytesPC]⟩, by simp [bytesPC]⟩
/-- too little is left -/
theorem take54s (nx id : Nat) (hid : id < nx) (b : List UInt8) (short : Bool) (n : Nat) (h : short = true ∨ b.length < n) (hb : b.length ≤ 9223372036854775807) (hn : n ≤ 1000) :
    GenC Try.prog 54 [.obj id 0, .p (.int n)] ⟨[(id, rdrO b short)], [], nx⟩ (.p (.sl (bytesPC (List.replicate n 0)))) ⟨[(id, rdrO b true)], [], nx + 2⟩ := by
  have hne : ¬ id = nx := by omega
  have hne2 : ¬ nx = id := by omega
  have hlt : id < nx + 1 := by omega
  have hm : n ≤ maxLen := by unfold maxLen; omega
  have hz : bytesPC (List.replicate n 0) = List.replicate n (.sc (.int .u8 0)) := by simp [bytesPC]
  have key : GenC Try.prog 54 [.obj id 0, .p (.int n)] ⟨[(id, rdrO b short)], [], nx⟩ (.view nx 0 n 1 none) ⟨[(nx, ⟨5, 1, (bytesPC (List.replicate n 0)).map .p⟩), (id, rdrO b true)], [], nx + 1⟩ := by
    refine gen_of_aw (rs := [_]) [] [] [] mixed Try.func54 rfl (by kernel_rfl) (by kernel_rfl) (by simp [Try.ntmps54]) rfl ?_
    cases short
    · have h1 : b.length < n := by simpa using h
      simp [bytesPC_len, h1, hne, hne2, Try.results54]
      refine ⟨by omega, hm, [], by simp [hne, hne2, hlt, hz]⟩
    · simp [bytesPC_len, hne, hne2, Try.results54]
      refine ⟨by omega, hm, [], by simp [hne, hne2, hlt, hz]⟩
  have := gen_pub key (ob := ⟨5, 1, (bytesPC (List.replicate n 0)).map .p⟩) (ys := bytesPC (List.replicate n 0)) (by simp) rfl (by omega) (by simp [bytesPC_len]) (by rw [Nat.mul_one, flat_pcs]; have := (bytes_bor (List.replicate n 0)).1; simpa using this) (by simp [bytesPC_len]) (bytes_bor _).2.1 (bytes_bor _).2.2
  simpa [Tb.delOb, del, hne, hne2] using this
end Go.Av

/-! part N17zf -/
namespace Go.Av
open Go.Proofs

theorem or_low (V x : Nat) (hV : V < 281474976710656) (hx : x < 256) : bits .or .i64 ((V : Int) * 256) (x : Int) = ((V * 256 + x : Nat) : Int) := by
  have e : (V : Int) * 256 = ((V * 256 : Nat) : Int) := by simp
  rw [e]
  unfold bits
  simp only [BitVec.ofInt_natCast, BitVec.toNat_or, BitVec.toNat_ofNat]
  have b : IntKind.i64.bits = 64 := rfl
  rw [b, Nat.mod_eq_of_lt (by omega), Nat.mod_eq_of_lt (by omega)]
  have h := Nat.shiftLeft_add_eq_or_of_lt (i := 8) (b := x) (by omega) V
  rw [Nat.shiftLeft_eq] at h
  have h2 : V * 256 ||| x = V * 256 + x := h.symm
  rw [h2]
  exact wrap64_id (by omega) (by omega)

theorem or_step (V x : Nat) (hV : V < 281474976710656) (hx : x < 256) : bits .or .i64 (IntKind.i64.wrap ((V : Int) * 2 ^ min 8 IntKind.i64.bits)) (IntKind.i64.wrap (x : Int)) = ((V * 256 + x : Nat) : Int) := by
  have p : (2 : Int) ^ min 8 IntKind.i64.bits = 256 := rfl
  rw [p, wrap64_id (n := (V : Int) * 256) (by omega) (by omega), wrap64_id (n := (x : Int)) (by omega) (by omega)]
  exact or_low V x hV hx

/-- the number that octets are, the greatest first -/
def numV (b : List UInt8) : Nat := b.foldl (fun v x => v * 256 + x.toNat) 0
theorem numV_snoc (b : List UInt8) (x : UInt8) : numV (b ++ [x]) = numV b * 256 + x.toNat := by simp [numV]
theorem numV_lt : ∀ (n : Nat) (b : List UInt8), b.length = n → numV b < 256 ^ n := by
  intro n
  induction n with
  | zero => intro b h; have : b = [] := List.eq_nil_of_length_eq_zero h; subst this; simp [numV]
  | succ n ih =>
    intro b h
    have hne : b ≠ [] := by intro e; subst e; simp at h
    obtain ⟨a, x, rfl⟩ : ∃ a x, b = a ++ [x] := ⟨b.dropLast, b.getLast hne, (List.dropLast_concat_getLast hne).symm⟩
    rw [numV_snoc]
    have := ih a (by simp at h; exact h)
    have hx : x.toNat < 256 := x.toNat_lt
    rw [Nat.pow_succ]; omega

theorem number53 (nx id : Nat) (hid : id < nx) (b : List UInt8) (n : Nat) (hn : n ≤ b.length) (hb : b.length ≤ 9223372036854775807) (h5 : n ≤ 5) :
    GenC Try.prog 53 [.obj id 0, .p (.int n)] ⟨[(id, rdrO b false)], [], nx⟩ (.p (.int (numV (b.take n)))) ⟨[(id, rdrO (b.drop n) false)], [], nx⟩ := by
  refine gen_of_aw (rs := [_]) [] [] [] mixed Try.func53 rfl (by kernel_rfl) (by kernel_rfl) (by simp [Try.ntmps53]) rfl ?_
  simp
  refine gcall_of0 (take54 nx id hid b n hn hb) (by simp) (by simp [sub1]) trivial rfl ?_
  obtain ⟨t, ht⟩ : ∃ t, t = b.take n := ⟨_, rfl⟩
  have lt : t.length = n := by rw [ht]; simp; omega
  rw [← ht]
  simp [bytesPC_len, lt]
  refine aw_loop (fun k : Nat => k ≤ n) (fun k => [(10, .p (.sl (bytesPC t))), (11, .p (.int n)), (12, .p (.int k)), (5, .p (.int (numV (t.take k))))]) (fun _ => ⟨[(id, rdrO (b.drop n) false)], [], nx⟩) (fun k => n - k) 0 (by simp) _ (AS.le_refl _ _) (leN_id (by simp [hid, numV])) ?_
  intro k hk
  by_cases c1 : k < n
  · have c1' : k < t.length := by omega
    have hg : (bytesPC t)[k]? = some (.sc (.int .u8 (t[k].toNat : Int))) := by simp [bytesPC, c1']
    have hV : numV (t.take k) < 281474976710656 := by
      have h1 := numV_lt k (t.take k) (by simp; omega)
      have h2 : 256 ^ k ≤ 256 ^ 5 := Nat.pow_le_pow_right (by omega) (by omega)
      have h3 : (256 : Nat) ^ 5 = 1099511627776 := rfl
      omega
    have q := or_step (numV (t.take k)) t[k].toNat hV t[k].toNat_lt
    have q2 : numV (t.take (k + 1)) = numV (t.take k) * 256 + t[k].toNat := by rw [List.take_succ_eq_append_getElem c1', numV_snoc]
    simp [c1, hg]
    refine ⟨k + 1, by omega, by omega, leN_id ?_⟩
    simp [hid, q, q2, wrap64_id (n := (k : Int) + 1) (by omega) (by omega)]
  · have e : k = n := by omega
    subst e
    have e2 : t.take k = t := List.take_of_length_le (by omega)
    simp [e2, Try.results53]
    exact ⟨[], by simp [hid]⟩

theorem number53s (nx id : Nat) (hid : id < nx) (b : List UInt8) (short : Bool) (n : Nat) (h : short = true ∨ b.length < n) (hb : b.length ≤ 9223372036854775807) (h5 : n ≤ 5) :
    GenC Try.prog 53 [.obj id 0, .p (.int n)] ⟨[(id, rdrO b short)], [], nx⟩ (.p (.int 0)) ⟨[(id, rdrO b true)], [], nx + 2⟩ := by
  have hlt : id < nx + 2 := by omega
  refine gen_of_aw (rs := [_]) [] [] [] mixed Try.func53 rfl (by kernel_rfl) (by kernel_rfl) (by simp [Try.ntmps53]) rfl ?_
  simp
  refine gcall_of0 (take54s nx id hid b short n h hb (by omega)) (by simp) (by simp [sub1]) trivial rfl ?_
  obtain ⟨t, ht⟩ : ∃ t : List UInt8, t = List.replicate n 0 := ⟨_, rfl⟩
  have lt : t.length = n := by rw [ht]; simp
  rw [← ht]
  simp [bytesPC_len, lt]
  refine aw_loop (fun k : Nat => k ≤ n) (fun k => [(10, .p (.sl (bytesPC t))), (11, .p (.int n)), (12, .p (.int k)), (5, .p (.int 0))]) (fun _ => ⟨[(id, rdrO b true)], [], nx + 2⟩) (fun k => n - k) 0 (by simp) _ (AS.le_refl _ _) (leN_id (by simp [hlt])) ?_
  intro k hk
  by_cases c1 : k < n
  · have c1' : k < t.length := by omega
    have hz : t[k] = 0 := by subst ht; simp
    have hg : (bytesPC t)[k]? = some (.sc (.int .u8 0)) := by simp [bytesPC, c1', hz]
    have q : bits .or .i64 (IntKind.i64.wrap 0) (IntKind.i64.wrap 0) = 0 := by decide
    simp [c1, hg]
    refine ⟨k + 1, by omega, by omega, leN_id ?_⟩
    simp [hlt, q, wrap64_id (n := (k : Int) + 1) (by omega) (by omega)]
  · simp [c1, Try.results53]
    exact ⟨[], by simp [hlt]⟩

/-- a node that isn't right has no octets -/
theorem pack28n (l : Bool) (ks : List (List UInt8)) (vs : List Int) (hr : rightB l ks vs = false) (hk : ks.length ≤ 9223372036854775807) (hv : vs.length ≤ 9223372036854775807) :
    PureC Try.prog 28 [nodeP l ks vs] (.tp [.nil, .int 10]) := by
  refine pure_of_aw (ys := [_, _]) [] [] [] mixed Try.func28 rfl (by kernel_rfl) (by kernel_rfl) (by simp [Try.ntmps28]) rfl ?_
  simp
  refine pcall_of (right29 l ks vs hk hv) (by simp) ?_
  simp [hr, Try.results28]
end Go.Av

/-! part N17zg -/
namespace Go.Av
open Go.Proofs

theorem q_div (m d i : Nat) (hd : d = 2 ^ (8 * i)) (hm : m < 1099511627776) : IntKind.i64.wrap ((m : Int).tdiv (d : Int)) = ((m / 2 ^ (8 * i) : Nat) : Int) := by
  have e : (m : Int).tdiv (d : Int) = ((m / d : Nat) : Int) := by rw [Int.tdiv_eq_ediv_of_nonneg (by omega)]; simp
  have h : m / d ≤ m := Nat.div_le_self m d
  rw [e, wrap64_id (by have := Int.natCast_nonneg (m / d); omega) (by have := Int.ofNat_le.2 h; omega), hd]
theorem q_hi (m d i : Nat) (hd : d = 2 ^ (8 * i)) (hm : m < 1099511627776) : IntKind.u8.wrap (IntKind.i64.wrap ((m : Int).tdiv (d : Int))) = ((byteAt (m : Int) i).toNat : Int) := by
  rw [q_div m d i hd hm, wu8, byteAt, Int.toNat_natCast]
theorem q_mod (m : Nat) : IntKind.u8.wrap ((m : Int).tmod 256) = ((UInt8.ofNat m).toNat : Int) := by
  have e : (m : Int).tmod 256 = ((m % 256 : Nat) : Int) := by rw [Int.tmod_eq_emod_of_nonneg (by omega)]; simp
  rw [e, wu8]; simp
theorem q_lo (m d i : Nat) (hd : d = 2 ^ (8 * i)) (hm : m < 1099511627776) : IntKind.u8.wrap ((IntKind.i64.wrap ((m : Int).tdiv (d : Int))).tmod 256) = ((byteAt (m : Int) i).toNat : Int) := by
  rw [q_div m d i hd hm, q_mod, byteAt, Int.toNat_natCast]
theorem row_five {B : List UInt8} {N : Nat} {v : Int} (hN : N = B.length) :
    List.take N ((bytesPC B).map AV.p) ++ [AV.p (.sc (.int .u8 ((byteAt v 4).toNat : Int))), AV.p (.sc (.int .u8 ((byteAt v 3).toNat : Int))), AV.p (.sc (.int .u8 ((byteAt v 2).toNat : Int))), AV.p (.sc (.int .u8 ((byteAt v 1).toNat : Int))), AV.p (.sc (.int .u8 ((byteAt v 0).toNat : Int)))] = (bytesPC (B ++ be5 v)).map AV.p := by
  have h1 : List.take N ((bytesPC B).map AV.p) = (bytesPC B).map AV.p := List.take_of_length_le (by simp [bytesPC_len]; omega)
  rw [h1]; simp [bytesPC, be5]

set_option maxHeartbeats 1000000 in
theorem pack31 (l : Bool) (ks : List (List UInt8)) (vs : List Int) (hr : rightB l ks vs = true) (hk : ks.length ≤ 9223372036854775807) (hv : vs.length ≤ 9223372036854775807) :
    PureC Try.prog 31 [nodeP l ks vs] (.sl (bytesPC (packB l ks vs))) := by
  obtain ⟨hc, k4, hf, k100⟩ := right_chn hr
  refine pure_of_gen (xs := [_]) (r := .view 0 0 (packB l ks vs).length 1 none) (tb' := ⟨[(0, ⟨5, 1, (bytesPC (packB l ks vs)).map .p⟩)], [], 1⟩) ?_ ?_
  · refine gen_of_aw (rs := [_]) [11] [] [] mixed Try.func31 rfl (by kernel_rfl) (by kernel_rfl) (by simp [Try.ntmps31]) rfl ?_
    simp
    cases l
    · simp
      refine aw_loop (fun k : Nat => k ≤ ks.length) (fun k => [(1, .p (.ref (nodeP false ks vs))), (3, .view 0 0 (packH false ks.length ++ packK (ks.take k)).length 1 none), (4, .p (.int k))])
        (fun k => ⟨[(0, ⟨5, 1, (bytesPC (packH false ks.length ++ packK (ks.take k))).map .p⟩)], [], 1⟩) (fun k => ks.length - k) 0 (by simp) _ (AS.le_refl _ _) (leN_id (by simp [packH, packK, bytesPC, wu8])) ?_
      intro k hk
      have hP := packK_len (n := ks.length) (fun s hs => k100 s (List.mem_of_mem_take hs)) (by simp; omega : (ks.take k).length ≤ ks.length)
      by_cases c1 : k < ks.length
      · have hl := k100 ks[k] (by simp)
        have key := row_key (B := packH false ks.length ++ packK (ks.take k)) (S := ks[k]) (N := (packH false ks.length).length + (packK (ks.take k)).length) (c := UInt8.ofNat ks[k].length) (by simp)
        rw [List.append_assoc, ← packK_succ c1, ← wu8] at key
        simp [c1] at key ⊢
        repeat' refine And.intro ?_ ?_
        all_goals first | omega | skip
        refine ⟨k + 1, by omega, by omega, leN_of [(0, 2)] ?_⟩
        have hlen : (packK (ks.take (k + 1))).length = (packK (ks.take k)).length + 1 + ks[k].length := by rw [packK_succ c1]; simp; omega
        simp [key, hlen, wrap64_id (n := (k : Int) + 1) (by omega) (by omega)]
        omega
      · have e : k = ks.length := by omega
        subst e
        have hP : (packK ks).length ≤ 404 := by simp only [List.take_length] at hP; omega
        simp
        have hf' : vs.length ≤ 5 := by have : vs.length = ks.length + 1 := by simpa [fmd] using hf
                                       omega
        obtain ⟨B0, hB0⟩ : ∃ B0, B0 = packH false ks.length ++ packK ks := ⟨_, rfl⟩
        have lB0 : B0.length = 2 + (packK ks).length := by rw [hB0]; simp
        rw [← hB0, ← lB0]
        refine aw_loop (fun k : Nat => k ≤ vs.length) (fun k => [(1, .p (.ref (nodeP false ks vs))), (3, .view 0 0 (B0 ++ packI (vs.take k)).length 1 none), (5, .p (.int k))])
          (fun k => ⟨[(0, ⟨5, 1, (bytesPC (B0 ++ packI (vs.take k))).map .p⟩)], [], 1⟩) (fun k => vs.length - k) 0 (by simp) _ (AS.le_refl _ _) (leN_id (by simp [packI])) ?_
        intro k hk
        by_cases c1 : k < vs.length
        · have hvb := right_vals hr vs[k] (by simp)
          simp only [vB, Bool.and_eq_true, decide_eq_true_eq] at hvb
          obtain ⟨m, hm⟩ : ∃ m : Nat, vs[k] = m := ⟨vs[k].toNat, by omega⟩
          have hm2 : m < 1099511627776 := by omega
          have q4 := q_hi m 4294967296 4 rfl hm2
          have q3 := q_lo m 16777216 3 rfl hm2
          have q2 := q_lo m 65536 2 rfl hm2
          have q1 := q_lo m 256 1 rfl hm2
          have q0 : IntKind.u8.wrap ((m : Int).tmod 256) = ((byteAt (m : Int) 0).toNat : Int) := by rw [q_mod]; simp [byteAt]
          rw [← hm] at q4 q3 q2 q1 q0
          have lP := packI_len (n := 5) (vs := vs.take k) (by simp; omega)
          have E : B0 ++ packI (vs.take (k + 1)) = (B0 ++ packI (vs.take k)) ++ be5 vs[k] := by rw [packI_succ c1, List.append_assoc]
          have l5 : (be5 vs[k]).length = 5 := rfl
          have lE : B0.length + (packI (vs.take (k + 1))).length = B0.length + (packI (vs.take k)).length + 5 := by rw [← List.length_append, E]; simp [l5]; omega
          have key := row_five (B := B0 ++ packI (vs.take k)) (N := B0.length + (packI (vs.take k)).length) (v := vs[k]) (by simp)
          rw [← E] at key
          simp [c1]
          refine ⟨by omega, by omega, k + 1, by omega, by omega, leN_of [(0, 1)] ?_⟩
          simp at q4 q3 q2 q1 q0
          simp [key, lE, q4, q3, q2, q1, q0, wrap64_id (n := (k : Int) + 1) (by omega) (by omega)]
        · have e : k = vs.length := by omega
          subst e
          simp [Try.results31]
          have E : packB false ks vs = B0 ++ packI vs := by rw [hB0]; rfl
          exact ⟨[], by simp [E]⟩
    · simp
      refine aw_loop (fun k : Nat => k ≤ ks.length) (fun k => [(1, .p (.ref (nodeP true ks vs))), (3, .view 0 0 (packH true ks.length ++ packK (ks.take k)).length 1 none), (4, .p (.int k))])
        (fun k => ⟨[(0, ⟨5, 1, (bytesPC (packH true ks.length ++ packK (ks.take k))).map .p⟩)], [], 1⟩) (fun k => ks.length - k) 0 (by simp) _ (AS.le_refl _ _) (leN_id (by simp [packH, packK, bytesPC, wu8])) ?_
      intro k hk
      have hP := packK_len (n := ks.length) (fun s hs => k100 s (List.mem_of_mem_take hs)) (by simp; omega : (ks.take k).length ≤ ks.length)
      by_cases c1 : k < ks.length
      · have hl := k100 ks[k] (by simp)
        have key := row_key (B := packH true ks.length ++ packK (ks.take k)) (S := ks[k]) (N := (packH true ks.length).length + (packK (ks.take k)).length) (c := UInt8.ofNat ks[k].length) (by simp)
        rw [List.append_assoc, ← packK_succ c1, ← wu8] at key
        simp [c1] at key ⊢
        repeat' refine And.intro ?_ ?_
        all_goals first | omega | skip
        refine ⟨k + 1, by omega, by omega, leN_of [(0, 2)] ?_⟩
        have hlen : (packK (ks.take (k + 1))).length = (packK (ks.take k)).length + 1 + ks[k].length := by rw [packK_succ c1]; simp; omega
        simp [key, hlen, wrap64_id (n := (k : Int) + 1) (by omega) (by omega)]
        omega
      · have e : k = ks.length := by omega
        subst e
        have hP : (packK ks).length ≤ 404 := by simp only [List.take_length] at hP; omega
        simp
        have hf' : vs.length ≤ 5 := by have : vs.length = ks.length := by simpa [fmd] using hf
                                       omega
        obtain ⟨B0, hB0⟩ : ∃ B0, B0 = packH true ks.length ++ packK ks := ⟨_, rfl⟩
        have lB0 : B0.length = 2 + (packK ks).length := by rw [hB0]; simp
        rw [← hB0, ← lB0]
        refine aw_loop (fun k : Nat => k ≤ vs.length) (fun k => [(1, .p (.ref (nodeP true ks vs))), (3, .view 0 0 (B0 ++ packI (vs.take k)).length 1 none), (5, .p (.int k))])
          (fun k => ⟨[(0, ⟨5, 1, (bytesPC (B0 ++ packI (vs.take k))).map .p⟩)], [], 1⟩) (fun k => vs.length - k) 0 (by simp) _ (AS.le_refl _ _) (leN_id (by simp [packI])) ?_
        intro k hk
        by_cases c1 : k < vs.length
        · have hvb := right_vals hr vs[k] (by simp)
          simp only [vB, Bool.and_eq_true, decide_eq_true_eq] at hvb
          obtain ⟨m, hm⟩ : ∃ m : Nat, vs[k] = m := ⟨vs[k].toNat, by omega⟩
          have hm2 : m < 1099511627776 := by omega
          have q4 := q_hi m 4294967296 4 rfl hm2
          have q3 := q_lo m 16777216 3 rfl hm2
          have q2 := q_lo m 65536 2 rfl hm2
          have q1 := q_lo m 256 1 rfl hm2
          have q0 : IntKind.u8.wrap ((m : Int).tmod 256) = ((byteAt (m : Int) 0).toNat : Int) := by rw [q_mod]; simp [byteAt]
          rw [← hm] at q4 q3 q2 q1 q0
          have lP := packI_len (n := 5) (vs := vs.take k) (by simp; omega)
          have E : B0 ++ packI (vs.take (k + 1)) = (B0 ++ packI (vs.take k)) ++ be5 vs[k] := by rw [packI_succ c1, List.append_assoc]
          have l5 : (be5 vs[k]).length = 5 := rfl
          have lE : B0.length + (packI (vs.take (k + 1))).length = B0.length + (packI (vs.take k)).length + 5 := by rw [← List.length_append, E]; simp [l5]; omega
          have key := row_five (B := B0 ++ packI (vs.take k)) (N := B0.length + (packI (vs.take k)).length) (v := vs[k]) (by simp)
          rw [← E] at key
          simp [c1]
          refine ⟨by omega, by omega, k + 1, by omega, by omega, leN_of [(0, 1)] ?_⟩
          simp at q4 q3 q2 q1 q0
          simp [key, lE, q4, q3, q2, q1, q0, wrap64_id (n := (k : Int) + 1) (by omega) (by omega)]
        · have e : k = vs.length := by omega
          subst e
          simp [Try.results31]
          have E : packB true ks vs = B0 ++ packI vs := by rw [hB0]; rfl
          exact ⟨[], by simp [E]⟩
  · simp [borF]
    exact bytes_bor _
end Go.Av

/-! part N17zh -/
namespace Go.Av
open Go.Proofs

/-- more names may be taken as used -/
theorem gen_nx {P : Program} {f : FuncId} {xs : List AV} {tb : Tb} {r : AV} {tb' : Tb} (m : Nat) (h : GenC P f xs tb r tb') (hm : tb'.nx ≤ m) : GenC P f xs tb r ⟨tb'.bx, tb'.rw, m⟩ :=
  gen_le h fun _ _ _ g _ _ hw hv => ⟨g, G.le_refl g, hw.sub (fun _ _ e => e) (fun _ _ e => e) hm, hv⟩

/-- what a reader has left, and whether there was too little -/
abbrev Rdr := List UInt8 × Bool
def tkR (s : Rdr) (n : Nat) : List UInt8 × Rdr := if s.2 = true ∨ s.1.length < n then (List.replicate n 0, (s.1, true)) else (s.1.take n, (s.1.drop n, false))
def nmR (s : Rdr) (n : Nat) : Nat × Rdr := (numV (tkR s n).1, (tkR s n).2)
theorem numV_zero (n : Nat) : numV (List.replicate n 0) = 0 := by
  induction n with
  | zero => rfl
  | succ n ih => rw [List.replicate_succ', numV_snoc, ih]; rfl

theorem takeR (nx id : Nat) (hid : id < nx) (s : Rdr) (n : Nat) (hb : s.1.length ≤ 9223372036854775807) (hn : n ≤ 1000) :
    GenC Try.prog 54 [.obj id 0, .p (.int n)] ⟨[(id, rdrO s.1 s.2)], [], nx⟩ (.p (.sl (bytesPC (tkR s n).1))) ⟨[(id, rdrO (tkR s n).2.1 (tkR s n).2.2)], [], nx + 2⟩ := by
  obtain ⟨b, t⟩ := s
  by_cases h : t = true ∨ b.length < n
  · have := take54s nx id hid b t n h hb hn
    simpa [tkR, h] using this
  · obtain ⟨h1, h2⟩ := not_or.1 h
    have ht : t = false := by simpa using h1
    subst ht
    have := gen_nx (nx + 2) (take54 nx id hid b n (by omega) hb) (by simp)
    simpa [tkR, h2] using this
theorem numberR (nx id : Nat) (hid : id < nx) (s : Rdr) (n : Nat) (hb : s.1.length ≤ 9223372036854775807) (hn : n ≤ 5) :
    GenC Try.prog 53 [.obj id 0, .p (.int n)] ⟨[(id, rdrO s.1 s.2)], [], nx⟩ (.p (.int (nmR s n).1)) ⟨[(id, rdrO (nmR s n).2.1 (nmR s n).2.2)], [], nx + 2⟩ := by
  obtain ⟨b, t⟩ := s
  by_cases h : t = true ∨ b.length < n
  · have := number53s nx id hid b t n h hb hn
    simpa [nmR, tkR, h, numV_zero] using this
  · obtain ⟨h1, h2⟩ := not_or.1 h
    have ht : t = false := by simpa using h1
    subst ht
    have := gen_nx (nx + 2) (number53 nx id hid b n (by omega) hb hn) (by simp)
    simpa [nmR, tkR, h2] using this
end Go.Av

/-! part N17zi -/
namespace Go.Av
open Go.Proofs

def itr {α : Type} (f : α → α) : Nat → α → α
  | 0, x => x
  | n + 1, x => f (itr f n x)

/-- a key more is read -/
def stepK (x : List (List UInt8) × Rdr) : List (List UInt8) × Rdr :=
  (x.1 ++ [(tkR (nmR x.2 1).2 (nmR x.2 1).1).1], (tkR (nmR x.2 1).2 (nmR x.2 1).1).2)
/-- a value more is read -/
def stepV (x : List Int × Rdr) : List Int × Rdr := (x.1 ++ [((nmR x.2 5).1 : Int)], (nmR x.2 5).2)

theorem tkR_len (s : Rdr) (n : Nat) : (tkR s n).1.length = n := by
  unfold tkR; split
  · simp
  · rename_i h; simp at h; simp; omega
theorem tkR_rest (s : Rdr) (n : Nat) : (tkR s n).2.1.length ≤ s.1.length := by
  unfold tkR; split <;> simp
theorem nmR_rest (s : Rdr) (n : Nat) : (nmR s n).2.1.length ≤ s.1.length := tkR_rest s n
theorem nmR_lt (s : Rdr) (n : Nat) : (nmR s n).1 < 256 ^ n := numV_lt n _ (tkR_len s n)
theorem stepK_rest (x : List (List UInt8) × Rdr) : (stepK x).2.1.length ≤ x.2.1.length := Nat.le_trans (tkR_rest _ _) (nmR_rest _ _)
theorem stepV_rest (x : List Int × Rdr) : (stepV x).2.1.length ≤ x.2.1.length := nmR_rest _ _
theorem itrK_rest (n : Nat) (x : List (List UInt8) × Rdr) : (itr stepK n x).2.1.length ≤ x.2.1.length := by
  induction n with
  | zero => exact Nat.le_refl _
  | succ n ih => exact Nat.le_trans (stepK_rest _) ih
theorem itrV_rest (n : Nat) (x : List Int × Rdr) : (itr stepV n x).2.1.length ≤ x.2.1.length := by
  induction n with
  | zero => exact Nat.le_refl _
  | succ n ih => exact Nat.le_trans (stepV_rest _) ih
theorem itrK_len (n : Nat) (x : List (List UInt8) × Rdr) : (itr stepK n x).1.length = x.1.length + n := by
  induction n with
  | zero => rfl
  | succ n ih => simp [itr, stepK, ih]; omega
theorem itrV_len (n : Nat) (x : List Int × Rdr) : (itr stepV n x).1.length = x.1.length + n := by
  induction n with
  | zero => rfl
  | succ n ih => simp [itr, stepV, ih]; omega

/-- what is read ahead of the keys, and behind -/
def upK (k : Nat) (s : Rdr) : List (List UInt8) × Rdr := itr stepK k ([], s)
def upV (kind k : Nat) (s : Rdr) : List Int × Rdr := itr stepV (k + if kind = 1 then 0 else 1) ([], s)
def upOk (kind : Nat) (ks : List (List UInt8)) (vs : List Int) (r : Rdr) : Bool := !r.2 && r.1.isEmpty && (kind == 1 || kind == 2) && rightB (kind == 1) ks vs
def upP (kind k : Nat) (s : Rdr) : PC :=
  let K := upK k s
  let V := upV kind k K.2
  if upOk kind K.1 V.1 V.2 then .tp [nodeP (kind == 1) K.1 V.1, .int 0] else .tp [nodeP false [] [], .int 10]

set_option maxHeartbeats 2000000 in
set_option maxRecDepth 100000 in
theorem unpack30 (b : List UInt8) (hb : b.length ≤ 9223372036854775807) :
    PureC Try.prog 30 [.sl (bytesPC b)] (upP (nmR (b, false) 1).1 (nmR (nmR (b, false) 1).2 1).1 (nmR (nmR (b, false) 1).2 1).2) := by
  have r1 := nmR_rest (b, false) 1
  have l1 := nmR_lt (b, false) 1
  have c1 := numberR 2 1 (by omega) (b, false) 1 hb (by omega)
  generalize nmR (b, false) 1 = x1 at *
  obtain ⟨kind, s1⟩ := x1
  have r2 := nmR_rest s1 1
  have l2 := nmR_lt s1 1
  have hb1 : s1.1.length ≤ 9223372036854775807 := Nat.le_trans r1 hb
  have c2 := numberR 4 1 (by omega) s1 1 hb1 (by omega)
  simp only at *
  generalize nmR s1 1 = x2 at *
  obtain ⟨k, s2⟩ := x2
  have hb2 : s2.1.length ≤ 9223372036854775807 := Nat.le_trans r2 hb1
  simp only at *
  have e : upP kind k s2 = packR [if upOk kind (upK k s2).1 (upV kind k (upK k s2).2).1 (upV kind k (upK k s2).2).2 then nodeP (kind == 1) (upK k s2).1 (upV kind k (upK k s2).2).1 else nodeP false [] [], .int (if upOk kind (upK k s2).1 (upV kind k (upK k s2).2).1 (upV kind k (upK k s2).2).2 then 0 else 10)] := by
    simp only [upP, packR]; split <;> rfl
  refine pure_of_aw (ys := [_, _]) [10] [(6, [(1, .r 1), (4, .w [1]), (5, .w [1]), (8, .f [1]), (10, .s 1 [])]), (10, [(1, .r 1), (3, .w [1]), (5, .f [1]), (7, .s 1 [])])] [(1, 6)] mixed Try.func30 rfl (by kernel_rfl) (by kernel_rfl) (by simp [Try.ntmps30]) e ?_
  have kbe : ((kind : Int) == 1) = (kind == 1) := by rw [Bool.eq_iff_iff]; simp; omega
  generalize hK : upK k s2 = K
  generalize hV : upV kind k K.2 = V
  simp
  refine gcall_of0 c1 (by simp) (by simp [sub1]) trivial rfl ?_
  simp
  refine gcall_of0 c2 (by simp) (by simp [sub1]) trivial rfl ?_
  simp
  refine aw_loop (fun i : Nat => i ≤ k) (fun i => [(2, .obj 0 0), (4, .obj 1 0), (5, .p (.int kind)), (6, .p (.int k)), (7, .obj 6 0), (18, .p (.int k)), (19, .p (.int i))])
    (fun i => ⟨[(6, ⟨25, 3, [.p (.bool (kind == 1)), .own 7 ((upK i s2).1.map PC.str), .own 8 []]⟩), (1, rdrO (upK i s2).2.1 (upK i s2).2.2), (0, ⟨25, 3, [.p (.bool false), .p .nil, .p .nil]⟩)], [(7, 9, 1), (8, 3, 1)], 9⟩) (fun i => k - i) 0 (by simp) _
    ((le_ownO 6 1 9 1 ⟨25, 3, [.p (.bool (kind == 1)), .p .nil, .p .nil]⟩ [] ?_ ?_).trans (le_ownO 6 2 3 1 ⟨25, 3, [.p (.bool (kind == 1)), .own 7 [], .p .nil]⟩ [] ?_ ?_)) (leN_id ?_) ?_
  · simp [kbe]
  · simp
  · simp [kbe]
  · simp
  · simp [kbe, upK, itr]
  · intro i hi
    have q1 := itrK_rest i ([], s2)
    by_cases c : i < k
    · have hs : upK (i + 1) s2 = stepK (upK i s2) := rfl
      have hl := itrK_len i ([], s2)
      have e : itr stepK i ([], s2) = upK i s2 := rfl
      rw [e] at q1 hl
      generalize upK i s2 = X at *
      obtain ⟨ks, s⟩ := X
      simp only [List.length_nil, Nat.zero_add] at q1 hl
      have q2 := nmR_rest s 1
      have q3 := nmR_lt s 1
      have hb3 : s.1.length ≤ 9223372036854775807 := Nat.le_trans q1 hb2
      have d1 := numberR 9 1 (by omega) s 1 hb3 (by omega)
      have d2 := takeR 11 1 (by omega) (nmR s 1).2 (nmR s 1).1 (Nat.le_trans q2 hb3) (by omega)
      simp [c]
      refine gcall_of0 d1 (by simp) (by simp [sub1]) trivial rfl ?_
      simp
      refine gcall_of0 d2 (by simp) (by simp [sub1]) trivial rfl ?_
      simp
      refine ⟨by omega, by omega, i + 1, by omega, by omega, leN_of [(7, 13)] ?_⟩
      simp [hs, stepK, wrap64_id (n := (i : Int) + 1) (by omega) (by omega)]
    · have e0 : i = k := by omega
      subst e0
      have q1 : K.2.1.length ≤ s2.1.length := by rw [← hK]; exact q1
      have hl : K.1.length = i := by have := itrK_len i ([], s2); rw [← hK]; simpa [upK] using this
      obtain ⟨ks, s3⟩ := K
      simp only at hV q1 hl
      have hb3 : s3.1.length ≤ 9223372036854775807 := Nat.le_trans q1 hb2
      have be : ∀ vs : List Int, PureC Try.prog 41 [.agg false [.bool (kind == 1), .sl (ks.map PC.str), .sl (vs.map PC.int)]] (.int (if kind == 1 then 0 else 1)) := fun vs => behind41 _ _ _
      have ebh : IntKind.i64.wrap ((i : Int) + (if kind == 1 then 0 else 1 : Int)) = ((i + if kind = 1 then 0 else 1 : Nat) : Int) := by
        by_cases c : kind = 1
        · simp [c, wrap64_id (n := (i : Int)) (by omega) (by omega)]
        · simp [c]; exact wrap64_id (by omega) (by omega)
      simp [hK]
      refine pcall_of (be []) (by simp) ?_
      simp
      rw [show ((if kind = 1 then (0 : Int) else 1)) = (if kind == 1 then 0 else 1 : Int) by simp, ebh]
      obtain ⟨m, hm⟩ : ∃ m, m = i + if kind = 1 then 0 else 1 := ⟨_, rfl⟩
      have hm2 : m ≤ 300 := by rw [hm]; split <;> omega
      rw [← hm]
      have hVm : V = itr stepV m ([], s3) := by rw [← hV, hm]; rfl
      refine aw_loop (fun j : Nat => j ≤ m) (fun j => [(2, .obj 0 0), (4, .obj 1 0), (5, .p (.int kind)), (7, .obj 6 0), (35, .p (.int m)), (36, .p (.int j))])
        (fun j => ⟨[(6, ⟨25, 3, [.p (.bool (kind == 1)), .own 7 (ks.map PC.str), .own 8 ((itr stepV j ([], s3)).1.map PC.int)]⟩), (1, rdrO (itr stepV j ([], s3)).2.1 (itr stepV j ([], s3)).2.2), (0, ⟨25, 3, [.p (.bool false), .p .nil, .p .nil]⟩)], [(7, 9, 1), (8, 3, 1)], 9⟩) (fun j => m - j) 0 (by simp) _
        (AS.le_refl _ _) (leN_id ?_) ?_
      · simp [itr]
      · intro j hj
        have w1 := itrV_rest j ([], s3)
        have w2 := itrV_len j ([], s3)
        by_cases c : j < m
        · have hs : itr stepV (j + 1) ([], s3) = stepV (itr stepV j ([], s3)) := rfl
          generalize itr stepV j ([], s3) = X at *
          obtain ⟨vs, s⟩ := X
          simp only [List.length_nil, Nat.zero_add] at w1 w2
          have d1 := numberR 9 1 (by omega) s 5 (Nat.le_trans w1 hb3) (by omega)
          simp [c]
          refine gcall_of0 d1 (by simp) (by simp [sub1]) trivial rfl ?_
          simp
          refine ⟨by omega, by omega, j + 1, by omega, by omega, leN_of [(8, 11)] ?_⟩
          simp [hs, stepV, wrap64_id (n := (j : Int) + 1) (by omega) (by omega)]
        · have e0 : j = m := by omega
          subst e0
          rw [← hVm] at w1 w2 ⊢
          obtain ⟨vs, r, sh⟩ := V
          simp only [List.length_nil, Nat.zero_add] at w1 w2
          cases sh
          · cases r with
            | cons x r => simp [upOk, Try.results30, bytesPC_len]
            | nil =>
              by_cases k1 : kind = 1
              · subst k1
                simp [upOk, bytesPC_len]
                refine pcall_of (right29 true ks vs (by omega) (by omega)) (by simp) ?_
                cases hr : rightB true ks vs <;> simp [Try.results30]
              · by_cases k2 : kind = 2
                · subst k2
                  simp [upOk, bytesPC_len]
                  refine pcall_of (right29 false ks vs (by omega) (by omega)) (by simp) ?_
                  cases hr : rightB false ks vs <;> simp [Try.results30]
                · have k1' : ((kind : Int) != 1) = true := by simp; omega
                  have k2' : ((kind : Int) != 2) = true := by simp; omega
                  simp [upOk, Try.results30, bytesPC_len, k1, k2, k1', k2']
          · simp [upOk, Try.results30]
end Go.Av

/-! part N17zj -/
namespace Go.Av
open Go.Proofs

theorem nmR_cons (y : UInt8) (t : List UInt8) : nmR (y :: t, false) 1 = (y.toNat, (t, false)) := by
  simp [nmR, tkR, numV]
theorem nmR_nil : nmR ([], false) 1 = (0, ([], true)) := by
  simp [nmR, tkR, numV]
theorem stepK_nil (ks : List (List UInt8)) : (stepK (ks, ([], false))).2.2 = true := by
  simp [stepK, nmR_nil, tkR]
theorem stepK_cut (ks : List (List UInt8)) (y : UInt8) (t : List UInt8) (h : t.length < y.toNat) : (stepK (ks, (y :: t, false))).2.2 = true := by
  simp [stepK, nmR_cons, tkR, h]
theorem stepK_cons (ks : List (List UInt8)) (y : UInt8) (t : List UInt8) (h : y.toNat ≤ t.length) : stepK (ks, (y :: t, false)) = (ks ++ [t.take y.toNat], (t.drop y.toNat, false)) := by
  have : ¬ t.length < y.toNat := by omega
  simp [stepK, nmR_cons, tkR, this]
theorem tkR_short (s : Rdr) (n : Nat) (h : s.2 = true) : (tkR s n).2.2 = true := by
  unfold tkR; rw [if_pos (.inl h)]
theorem stepK_short (x : List (List UInt8) × Rdr) (h : x.2.2 = true) : (stepK x).2.2 = true := tkR_short _ _ (tkR_short _ _ h)
theorem stepV_short (x : List Int × Rdr) (h : x.2.2 = true) : (stepV x).2.2 = true := tkR_short _ _ h
theorem itrK_short (x : List (List UInt8) × Rdr) {i n : Nat} (hi : i ≤ n) (h : (itr stepK i x).2.2 = true) : (itr stepK n x).2.2 = true := by
  induction n with
  | zero => have : i = 0 := by omega
            subst this; exact h
  | succ n ih =>
    by_cases c : i = n + 1
    · subst c; exact h
    · exact stepK_short _ (ih (by omega))
theorem itrV_short (x : List Int × Rdr) (n : Nat) (h : x.2.2 = true) : (itr stepV n x).2.2 = true := by
  induction n with
  | zero => exact h
  | succ n ih => exact stepV_short _ ih
theorem tkR_suf (s : Rdr) (n : Nat) : (tkR s n).2.1 <:+ s.1 := by
  unfold tkR; split
  · exact List.suffix_refl _
  · exact List.drop_suffix _ _
theorem itrK_suf (x : List (List UInt8) × Rdr) (n : Nat) : (itr stepK n x).2.1 <:+ x.2.1 := by
  induction n with
  | zero => exact List.suffix_refl _
  | succ n ih => exact ((tkR_suf _ _).trans (tkR_suf _ _)).trans ih
theorem itrK_keys (x : List (List UInt8) × Rdr) (n : Nat) : ∀ s ∈ (itr stepK n x).1, s ∈ x.1 ∨ s.length < 256 := by
  induction n with
  | zero => intro s hs; exact .inl hs
  | succ n ih =>
    intro s hs
    simp only [itr, stepK, List.mem_append, List.mem_singleton] at hs
    rcases hs with hs | hs
    · exact ih s hs
    · right; rw [hs, tkR_len]; exact nmR_lt _ 1
theorem suf_drop {B r : List UInt8} (h : r <:+ B) : B.drop (B.length - r.length) = r := by
  obtain ⟨a, rfl⟩ := h
  simp

theorem drop_B {x0 x1 : UInt8} {r rest : List UInt8} {a : Nat} (hl : rest.length ≤ r.length) (ha : a = r.length + 2 - rest.length) : (bytesPC (x0 :: x1 :: r)).drop a = bytesPC (r.drop (r.length - rest.length)) := by
  have e : a = r.length - rest.length + 2 := by omega
  rw [e]; simp [bytesPC]
/-- values: all there -/
theorem itrV_ok (vs : List Int) (r : List UInt8) (n : Nat) (h : 5 * n ≤ r.length) : itr stepV n (vs, (r, false)) = (vs ++ (List.range n).map (fun i => ((numV ((r.drop (5 * i)).take 5) : Nat) : Int)), (r.drop (5 * n), false)) := by
  induction n with
  | zero => simp [itr]
  | succ n ih =>
    have h5 : ¬ (r.drop (5 * n)).length < 5 := by simp; omega
    rw [itr, ih (by omega), List.range_succ]
    simp only [stepV, nmR, tkR, h5, Bool.false_eq_true, or_self, if_false]
    simp [Nat.mul_add]
theorem itrV_cut (vs : List Int) (r : List UInt8) (n : Nat) (h : r.length < 5 * n) : (itr stepV n (vs, (r, false))).2.2 = true := by
  induction n with
  | zero => omega
  | succ n ih =>
    by_cases c : r.length < 5 * n
    · exact stepV_short _ (ih c)
    · rw [itr, itrV_ok _ _ _ (by omega)]
      have : (r.drop (5 * n)).length < 5 := by simp; omega
      simp only [stepV, nmR, tkR, this, or_true, if_true]

/-- the reference's answer -/
def refP (x0 x1 : UInt8) (r : List UInt8) : PC × Bool :=
  if x0.toNat < 1 ∨ 2 < x0.toNat then (nodeP false [] [], false) else
  if (upK x1.toNat (r, false)).2.2 = true then (nodeP false [] [], false) else
  if (upK x1.toNat (r, false)).2.1.length ≠ 5 * (x1.toNat + if x0.toNat = 1 then 0 else 1) then (nodeP false [] [], false) else
  (nodeP (x0.toNat == 1) (upK x1.toNat (r, false)).1 (itr stepV (x1.toNat + if x0.toNat = 1 then 0 else 1) ([], (upK x1.toNat (r, false)).2)).1,
    rightB (x0.toNat == 1) (upK x1.toNat (r, false)).1 (itr stepV (x1.toNat + if x0.toNat = 1 then 0 else 1) ([], (upK x1.toNat (r, false)).2)).1)

theorem unpack32s (b : List UInt8) (hb : b.length < 2) : PureC Try.prog 32 [.sl (bytesPC b)] (.tp [nodeP false [] [], .bool false]) := by
  refine pure_of_aw (ys := [_, _]) [] [] [] mixed Try.func32 rfl (by kernel_rfl) (by kernel_rfl) (by simp [Try.ntmps32]) rfl ?_
  have hb' : decide ((b.length : Int) < 2) = true := by simp; omega
  simp [bytesPC_len, hb', Try.results32]

set_option maxHeartbeats 2000000 in
set_option maxRecDepth 100000 in
theorem unpack32 (x0 x1 : UInt8) (r : List UInt8) (hb : r.length ≤ 1000000) :
    PureC Try.prog 32 [.sl (bytesPC (x0 :: x1 :: r))] (.tp [(refP x0 x1 r).1, .bool (refP x0 x1 r).2]) := by
  refine pure_of_aw (ys := [_, _]) [] [(11, [(1, .r 1), (16, .f [1]), (18, .s 1 [])]), (26, [(0, .r 1), (1, .r 1), (3, .s 2 [1])])] [(1, 1), (2, 0)] mixed Try.func32 rfl (by kernel_rfl) (by kernel_rfl) (by simp [Try.ntmps32]) rfl ?_
  have hB : bytesPC (x0 :: x1 :: r) = .sc (.int .u8 x0.toNat) :: .sc (.int .u8 x1.toNat) :: bytesPC r := rfl
  have e0 : decide ((r.length : Int) + 1 + 1 < 2) = false := by simp; omega
  by_cases g1 : x0.toNat < 1
  · have e1 : x0.toNat = 0 := by omega
    simp [hB, bytesPC_len, e0, e1, refP, Try.results32]
  by_cases g2 : 2 < x0.toNat
  · have e1 : decide ((x0.toNat : Int) < 1) = false := by simp; omega
    have e2 : decide ((2 : Int) < x0.toNat) = true := by simp; omega
    simp [hB, bytesPC_len, e0, e1, e2, g2, refP, Try.results32]
  have e1 : decide ((x0.toNat : Int) < 1) = false := by simp; omega
  have e2 : decide ((2 : Int) < x0.toNat) = false := by simp; omega
  have ek : IntKind.i64.wrap (x1.toNat : Int) = (x1.toNat : Int) := wrap64_id (by omega) (by have := x1.toNat_lt; omega)
  have hk := x1.toNat_lt
  simp [hB, bytesPC_len, e0, e1, e2, g2, ek]
  rw [← hB]
  obtain ⟨k, hk'⟩ : ∃ k, k = x1.toNat := ⟨_, rfl⟩
  rw [← hk'] at hk ⊢
  have hR : refP x0 x1 r = (if (upK k (r, false)).2.2 = true then (nodeP false [] [], false) else
    if (upK k (r, false)).2.1.length ≠ 5 * (k + if x0.toNat = 1 then 0 else 1) then (nodeP false [] [], false) else
    (nodeP (x0.toNat == 1) (upK k (r, false)).1 (itr stepV (k + if x0.toNat = 1 then 0 else 1) ([], (upK k (r, false)).2)).1,
      rightB (x0.toNat == 1) (upK k (r, false)).1 (itr stepV (k + if x0.toNat = 1 then 0 else 1) ([], (upK k (r, false)).2)).1)) := by
    rw [hk']; unfold refP; rw [if_neg (by omega)]
  generalize refP x0 x1 r = RR at *
  have kbe : ((x0.toNat : Int) == 1) = (x0.toNat == 1) := by rw [Bool.eq_iff_iff]; simp; omega
  obtain ⟨B, hBd⟩ : ∃ B, B = bytesPC (x0 :: x1 :: r) := ⟨_, rfl⟩
  have hBl : B.length = r.length + 2 := by rw [hBd]; simp [bytesPC_len]
  have hBw : ∀ y ∈ B, y.width = 1 := by rw [hBd]; exact (bytes_bor _).2.1
  rw [← hBd]
  refine aw_loop (fun i : Nat => i ≤ k ∧ (upK i (r, false)).2.2 = false) (fun i => [(0, .p (.sl B)), (2, .obj 0 0), (4, .obj 1 0), (5, .p (.int ((r.length + 2 - (upK i (r, false)).2.1.length : Nat) : Int))), (6, .p (.int k)), (7, .p (.int i))])
    (fun i => ⟨[(1, ⟨25, 3, [.p (.bool (x0.toNat == 1)), .own 2 ((upK i (r, false)).1.map PC.str), .own 3 []]⟩), (0, ⟨25, 3, [.p (.bool false), .p .nil, .p .nil]⟩)], [(2, 9, 1), (3, 3, 1)], 4⟩) (fun i => k - i) 0 (by simp [upK, itr]) _
    ((le_ownO 1 1 9 1 ⟨25, 3, [.p (.bool (x0.toNat == 1)), .p .nil, .p .nil]⟩ [] ?_ ?_).trans (le_ownO 1 2 3 1 ⟨25, 3, [.p (.bool (x0.toNat == 1)), .own 2 [], .p .nil]⟩ [] ?_ ?_)) (leN_id ?_) ?_
  · simp [kbe]
  · simp
  · simp [kbe]
  · simp
  · simp [upK, itr]
  · rintro i ⟨hi, hsh⟩
    have hsuf := itrK_suf ([], (r, false)) i
    have hlen := itrK_len i ([], (r, false))
    have hkey := itrK_keys ([], (r, false)) i
    have hs : upK (i + 1) (r, false) = stepK (upK i (r, false)) := rfl
    have hmono : i + 1 ≤ k → (upK (i + 1) (r, false)).2.2 = true → (upK k (r, false)).2.2 = true := fun h1 h2 => itrK_short _ h1 h2
    have hX : itr stepK i ([], (r, false)) = upK i (r, false) := rfl
    rw [hX] at hsuf hlen hkey
    by_cases c : i < k
    · generalize upK i (r, false) = X at *
      obtain ⟨ks, rest, sh⟩ := X
      simp only at hsuf hsh hlen
      subst hsh
      cases rest with
      | nil =>
        rw [if_pos (hmono c (by rw [hs]; exact stepK_nil _))] at hR
        subst hR
        simp [c, hBl, Try.results32]
        trace_state
      | cons y t =>
        obtain ⟨a, ha⟩ : ∃ a, a = r.length + 2 - (y :: t).length := ⟨_, rfl⟩
        have hl1 := hsuf.length_le
        simp only [List.length_cons] at hl1 ha
        have hget : B[a]? = some (.sc (.int .u8 y.toNat)) := by
          have h1 := suf_drop hsuf
          have h2 : B[a]? = (B.drop a)[0]? := by simp
          have h3 : B.drop a = bytesPC (y :: t) := by rw [← h1, hBd]; exact drop_B (by simp; omega) (by simp; omega)
          rw [h2, h3]; simp [bytesPC]
        have hg : decide ((r.length : Int) + 2 ≤ (a : Int)) = false := by simp; omega
        have w1 : IntKind.i64.wrap ((a : Int) + 1) = (a : Int) + 1 := wrap64_id (by omega) (by omega)
        have hy := y.toNat_lt
        have w2 : IntKind.i64.wrap (y.toNat : Int) = (y.toNat : Int) := wrap64_id (by omega) (by omega)
        have w3 : IntKind.i64.wrap ((a : Int) + 1 + (y.toNat : Int)) = (a : Int) + 1 + (y.toNat : Int) := wrap64_id (by omega) (by omega)
        by_cases c2 : t.length < y.toNat
        · rw [if_pos (hmono c (by rw [hs]; exact stepK_cut _ _ _ c2))] at hR
          subst hR
          have hg2 : decide ((r.length : Int) + 2 < (a : Int) + 1 + (y.toNat : Int)) = true := by simp; omega
          simp [c, hBl, ← ha, hg, hget, w1, w2, w3, hg2, Try.results32]
        · have hsl : List.drop (a + 1) (List.take (a + 1 + y.toNat) B) = bytesPC (t.take y.toNat) := by
            have h1 := suf_drop hsuf
            have h3 : B.drop a = bytesPC (y :: t) := by rw [← h1, hBd]; exact drop_B (by simp; omega) (by simp; omega)
            have h4 : List.drop (a + 1) (List.take (a + 1 + y.toNat) B) = List.take y.toNat (List.drop 1 (B.drop a)) := by
              rw [List.drop_take]; simp
            rw [h4, h3]; simp [bytesPC]
          have hg2 : decide ((r.length : Int) + 2 < (a : Int) + 1 + (y.toNat : Int)) = false := by simp; omega
          rw [stepK_cons _ _ _ (by omega)] at hs
          have t1 : ((a : Int) + 1 + (y.toNat : Int)).toNat = a + 1 + y.toNat := by omega
          simp [c, hBl, ← ha, hg, hget, w1, w2, w3, hg2, t1, hsl]
          have hks : ks.length = i := by simpa using hlen
          have e5 : r.length + 2 - (t.length - y.toNat) = a + 1 + y.toNat := by omega
          refine ⟨fun y hy => (hBw y hy).symm, by omega, by omega, by omega, by omega, by omega, i + 1, ⟨by omega, by rw [hs]⟩, by omega, leN_of [(2, 4)] ?_⟩
          simp [hs, e5, wrap64_id (n := (i : Int) + 1) (by omega) (by omega)]
    · have e0 : i = k := by omega
      subst e0
      generalize upK i (r, false) = X at *
      obtain ⟨ks, rest, sh⟩ := X
      simp only [List.not_mem_nil, false_or] at hsuf hsh hlen hR hkey
      subst hsh
      obtain ⟨a, ha⟩ : ∃ a, a = r.length + 2 - rest.length := ⟨_, rfl⟩
      have hl1 := hsuf.length_le
      have hks : ks.length = i := by simpa using hlen
      obtain ⟨m, hm⟩ : ∃ m, m = i + if x0.toNat = 1 then 0 else 1 := ⟨_, rfl⟩
      have hm2 : m ≤ 300 := by rw [hm]; split <;> omega
      rw [← hm] at hR
      have w1 : IntKind.i64.wrap ((a : Int) + IntKind.i64.wrap (5 * (m : Int))) = (a : Int) + 5 * (m : Int) := by
        rw [wrap64_id (n := 5 * (m : Int)) (by omega) (by omega)]; exact wrap64_id (by omega) (by omega)
      simp only [Bool.false_eq_true, if_false] at hR
      by_cases hml : r.length + 2 = a + 5 * m
      · have hne : ((r.length : Int) + 2 != (a : Int) + 5 * (m : Int)) = false := by simp; omega
        have hrl : rest.length = 5 * m := by omega
        rw [if_neg (by omega)] at hR
        subst hR
        have hgetq : ∀ q (hq : q < rest.length), B[a + q]? = some (.sc (.int .u8 (rest[q].toNat : Int))) := by
          intro q hq
          have h1 := suf_drop hsuf
          have h2 : B[a + q]? = (B.drop a)[q]? := by simp
          have h3 : B.drop a = bytesPC rest := by rw [← h1, hBd]; exact drop_B (by omega) (by omega)
          rw [h2, h3]; simp [bytesPC, hq]
        have hV : ∀ j, j ≤ m → (itr stepV j ([], rest, false)).1 = (List.range j).map (fun i => ((numV ((rest.drop (5 * i)).take 5) : Nat) : Int)) := by
          intro j hj
          rw [itrV_ok [] rest j (by omega)]; simp
        have hks100 : ks.length ≤ 300 := by omega
        rw [hV m (Nat.le_refl _)]
        obtain ⟨V, hVd⟩ : ∃ V : Nat → List Int, V = fun j => (List.range j).map (fun i => ((numV ((rest.drop (5 * i)).take 5) : Nat) : Int)) := ⟨_, rfl⟩
        have hVm : (List.range m).map (fun i => ((numV ((rest.drop (5 * i)).take 5) : Nat) : Int)) = V m := by rw [hVd]
        have hV0 : V 0 = [] := by rw [hVd]; rfl
        have hVs : ∀ j, V (j + 1) = V j ++ [((numV ((rest.drop (5 * j)).take 5) : Nat) : Int)] := by intro j; rw [hVd]; simp [List.range_succ]
        have hVl : ∀ j, (V j).length = j := by intro j; rw [hVd]; simp
        rw [hVm]
        clear hVd hVm hV
        have hrt := right21 (x0.toNat == 1) ks (V m) (by rw [hVl]; omega) (fun s hs => by have := hkey s hs; omega)
        have w0 : x0.toNat ≠ 1 → IntKind.i64.wrap ((i : Int) + 1) = (m : Int) := fun k1 => by rw [wrap64_id (by omega) (by omega), hm]; simp [k1]
        have hm1 : x0.toNat = 1 → m = i := fun k1 => by rw [hm]; simp [k1]
        cases hkb : (x0.toNat == 1)
        all_goals rw [hkb] at hrt
        · have k1 : x0.toNat ≠ 1 := by simpa using hkb
          simp [hBl, ← ha, w0 k1, w1, hne]
          refine aw_loop (fun j : Nat => j ≤ m) (fun j => [(0, .p (.sl B)), (2, .obj 0 0), (4, .obj 1 0), (5, .p (.int a)), (6, .p (.int m)), (8, .p (.int j))])
            (fun j => ⟨[(1, ⟨25, 3, [.p (.bool false), .own 2 (ks.map PC.str), .own 3 ((V j).map PC.int)]⟩), (0, ⟨25, 3, [.p (.bool false), .p .nil, .p .nil]⟩)], [(2, 9, 1), (3, 3, 1)], 4⟩) (fun j => m - j) 0 (by simp) _ (AS.le_refl _ _) (leN_id (by simp [hV0])) ?_
          intro j hj
          by_cases c3 : j < m
          · have w5 : IntKind.i64.wrap (5 * (j : Int)) = 5 * (j : Int) := wrap64_id (by omega) (by omega)
            have w6 : IntKind.i64.wrap ((a : Int) + 5 * (j : Int)) = (a : Int) + 5 * (j : Int) := wrap64_id (by omega) (by omega)
            obtain ⟨five, h5⟩ : ∃ five, five = (rest.drop (5 * j)).take 5 := ⟨_, rfl⟩
            have l5 : five.length = 5 := by rw [h5]; simp; omega
            have g5 : ∀ l (hl : l < five.length), five[l] = rest[5 * j + l]'(by omega) := by intro l hl; subst h5; simp
            have hVs' := hVs j
            rw [← h5] at hVs'
            simp [c3]
            refine aw_loop (fun l : Nat => l ≤ 5) (fun l => [(0, .p (.sl B)), (2, .obj 0 0), (4, .obj 1 0), (5, .p (.int a)), (6, .p (.int m)), (8, .p (.int j)), (9, .p (.int (numV (five.take l)))), (10, .p (.int l))])
              (fun _ => ⟨[(1, ⟨25, 3, [.p (.bool false), .own 2 (ks.map PC.str), .own 3 ((V j).map PC.int)]⟩), (0, ⟨25, 3, [.p (.bool false), .p .nil, .p .nil]⟩)], [(2, 9, 1), (3, 3, 1)], 4⟩) (fun l => 5 - l) 0 (by simp) _ (AS.le_refl _ _) (leN_id (by simp [numV])) ?_
            intro l hl
            by_cases c4 : l < 5
            · have w7 : IntKind.i64.wrap ((a : Int) + 5 * (j : Int) + (l : Int)) = (a : Int) + 5 * (j : Int) + (l : Int) := wrap64_id (by omega) (by omega)
              have t7 : ((a : Int) + 5 * (j : Int) + (l : Int)).toNat = a + (5 * j + l) := by omega
              have hg := hgetq (5 * j + l) (by omega)
              have q1 := numV_lt l (five.take l) (by simp; omega)
              have q2 : 256 ^ l ≤ 256 ^ 4 := Nat.pow_le_pow_right (by omega) (by omega)
              have q3 : (256 : Nat) ^ 4 = 4294967296 := rfl
              have q4 : numV (five.take (l + 1)) = numV (five.take l) * 256 + rest[5 * j + l].toNat := by
                rw [List.take_succ_eq_append_getElem (by omega : l < five.length), numV_snoc, g5 l (by omega)]
              have q5 := rest[5 * j + l].toNat_lt
              have w8 : IntKind.i64.wrap (IntKind.i64.wrap ((numV (five.take l) : Int) * 256) + IntKind.i64.wrap (rest[5 * j + l].toNat : Int)) = (numV (five.take (l + 1)) : Int) := by
                rw [wrap64_id (n := (rest[5 * j + l].toNat : Int)) (by omega) (by omega), wrap64_id (n := (numV (five.take l) : Int) * 256) (by omega) (by omega), wrap64_id (by omega) (by omega), q4]; simp
              have c4' : decide ((l : Int) < 5) = true := by simp; omega
              have p7 : 0 ≤ (a : Int) + 5 * (j : Int) + (l : Int) := by omega
              simp [c4', w5, w6, w7, t7, p7, hg]
              refine ⟨l + 1, by omega, by omega, leN_id ?_⟩
              simp [w8, wrap64_id (n := (l : Int) + 1) (by omega) (by omega)]
            · have c4' : decide ((l : Int) < 5) = false := by simp; omega
              have e5 : l = 5 := by omega
              subst e5
              have e6 : five.take 5 = five := List.take_of_length_le (by omega)
              have l1 := hVl j
              simp [c4', e6]
              refine ⟨by omega, by omega, j + 1, by omega, by omega, leN_of [(3, 4)] ?_⟩
              simp [hVs', wrap64_id (n := (j : Int) + 1) (by omega) (by omega)]
          · have e3 : j = m := by omega
            subst e3
            simp
            refine call_of hrt ?_
            simp [Try.results32]
        · have k1 : x0.toNat = 1 := by simpa using hkb
          have hm1 := hm1 k1
          subst hm1
          simp [hBl, ← ha, w1, hne]
          refine aw_loop (fun j : Nat => j ≤ m) (fun j => [(0, .p (.sl B)), (2, .obj 0 0), (4, .obj 1 0), (5, .p (.int a)), (6, .p (.int m)), (8, .p (.int j))])
            (fun j => ⟨[(1, ⟨25, 3, [.p (.bool true), .own 2 (ks.map PC.str), .own 3 ((V j).map PC.int)]⟩), (0, ⟨25, 3, [.p (.bool false), .p .nil, .p .nil]⟩)], [(2, 9, 1), (3, 3, 1)], 4⟩) (fun j => m - j) 0 (by simp) _ (AS.le_refl _ _) (leN_id (by simp [hV0])) ?_
          intro j hj
          by_cases c3 : j < m
          · have w5 : IntKind.i64.wrap (5 * (j : Int)) = 5 * (j : Int) := wrap64_id (by omega) (by omega)
            have w6 : IntKind.i64.wrap ((a : Int) + 5 * (j : Int)) = (a : Int) + 5 * (j : Int) := wrap64_id (by omega) (by omega)
            obtain ⟨five, h5⟩ : ∃ five, five = (rest.drop (5 * j)).take 5 := ⟨_, rfl⟩
            have l5 : five.length = 5 := by rw [h5]; simp; omega
            have g5 : ∀ l (hl : l < five.length), five[l] = rest[5 * j + l]'(by omega) := by intro l hl; subst h5; simp
            have hVs' := hVs j
            rw [← h5] at hVs'
            simp [c3]
            refine aw_loop (fun l : Nat => l ≤ 5) (fun l => [(0, .p (.sl B)), (2, .obj 0 0), (4, .obj 1 0), (5, .p (.int a)), (6, .p (.int m)), (8, .p (.int j)), (9, .p (.int (numV (five.take l)))), (10, .p (.int l))])
              (fun _ => ⟨[(1, ⟨25, 3, [.p (.bool true), .own 2 (ks.map PC.str), .own 3 ((V j).map PC.int)]⟩), (0, ⟨25, 3, [.p (.bool false), .p .nil, .p .nil]⟩)], [(2, 9, 1), (3, 3, 1)], 4⟩) (fun l => 5 - l) 0 (by simp) _ (AS.le_refl _ _) (leN_id (by simp [numV])) ?_
            intro l hl
            by_cases c4 : l < 5
            · have w7 : IntKind.i64.wrap ((a : Int) + 5 * (j : Int) + (l : Int)) = (a : Int) + 5 * (j : Int) + (l : Int) := wrap64_id (by omega) (by omega)
              have t7 : ((a : Int) + 5 * (j : Int) + (l : Int)).toNat = a + (5 * j + l) := by omega
              have hg := hgetq (5 * j + l) (by omega)
              have q1 := numV_lt l (five.take l) (by simp; omega)
              have q2 : 256 ^ l ≤ 256 ^ 4 := Nat.pow_le_pow_right (by omega) (by omega)
              have q3 : (256 : Nat) ^ 4 = 4294967296 := rfl
              have q4 : numV (five.take (l + 1)) = numV (five.take l) * 256 + rest[5 * j + l].toNat := by
                rw [List.take_succ_eq_append_getElem (by omega : l < five.length), numV_snoc, g5 l (by omega)]
              have q5 := rest[5 * j + l].toNat_lt
              have w8 : IntKind.i64.wrap (IntKind.i64.wrap ((numV (five.take l) : Int) * 256) + IntKind.i64.wrap (rest[5 * j + l].toNat : Int)) = (numV (five.take (l + 1)) : Int) := by
                rw [wrap64_id (n := (rest[5 * j + l].toNat : Int)) (by omega) (by omega), wrap64_id (n := (numV (five.take l) : Int) * 256) (by omega) (by omega), wrap64_id (by omega) (by omega), q4]; simp
              have c4' : decide ((l : Int) < 5) = true := by simp; omega
              have p7 : 0 ≤ (a : Int) + 5 * (j : Int) + (l : Int) := by omega
              simp [c4', w5, w6, w7, t7, p7, hg]
              refine ⟨l + 1, by omega, by omega, leN_id ?_⟩
              simp [w8, wrap64_id (n := (l : Int) + 1) (by omega) (by omega)]
            · have c4' : decide ((l : Int) < 5) = false := by simp; omega
              have e5 : l = 5 := by omega
              subst e5
              have e6 : five.take 5 = five := List.take_of_length_le (by omega)
              have l1 := hVl j
              simp [c4', e6]
              refine ⟨by omega, by omega, j + 1, by omega, by omega, leN_of [(3, 4)] ?_⟩
              simp [hVs', wrap64_id (n := (j : Int) + 1) (by omega) (by omega)]
          · have e3 : j = m := by omega
            subst e3
            simp
            refine call_of hrt ?_
            simp [Try.results32]
      · have hne : ((r.length : Int) + 2 != (a : Int) + 5 * (m : Int)) = true := by simp; omega
        have hrl : rest.length ≠ 5 * m := by omega
        rw [if_pos hrl] at hR
        subst hR
        by_cases k1 : x0.toNat = 1
        · simp [k1] at hm
          subst hm
          simp [k1, hBl, ← ha, w1, hne, Try.results32]
        · have w0 : IntKind.i64.wrap ((i : Int) + 1) = (m : Int) := by rw [wrap64_id (by omega) (by omega), hm]; simp [k1]
          have k1' : (x0.toNat == 1) = false := by simpa using k1
          simp [k1', hBl, ← ha, w0, w1, hne, Try.results32]
end Go.Av

/-! part N17zk -/
namespace Go.Av
open Go.Proofs

/-- both readings of octets agree -/
theorem up_ref (x0 x1 : UInt8) (r : List UInt8) :
    upP x0.toNat x1.toNat (r, false) = (if (refP x0 x1 r).2 = true then .tp [(refP x0 x1 r).1, .int 0] else .tp [nodeP false [] [], .int 10]) ∧
      ((refP x0 x1 r).2 = true → ∃ l ks vs, (refP x0 x1 r).1 = nodeP l ks vs ∧ ks.length ≤ 1000000 ∧ vs.length ≤ 1000000) := by
  obtain ⟨k, hk⟩ : ∃ k, k = x1.toNat := ⟨_, rfl⟩
  have hk2 : k < 256 := by rw [hk]; exact x1.toNat_lt
  have hlen := itrK_len k ([], (r, false))
  simp only [upP, refP, ← hk]
  rw [show itr stepK k ([], (r, false)) = upK k (r, false) from rfl] at hlen
  generalize upK k (r, false) = X at *
  obtain ⟨ks, rest, sh⟩ := X
  have hks : ks.length = k := by simpa using hlen
  simp only
  obtain ⟨m, hm⟩ : ∃ m, m = k + if x0.toNat = 1 then 0 else 1 := ⟨_, rfl⟩
  have hm2 : m ≤ 300 := by rw [hm]; split <;> omega
  by_cases g : x0.toNat < 1 ∨ 2 < x0.toNat
  · rw [if_pos g]
    have h1 : ¬ x0.toNat = 1 := by omega
    have h2 : ¬ x0.toNat = 2 := by omega
    simp [upOk, h1, h2]
  · rw [if_neg g]
    have hV : upV x0.toNat k (rest, sh) = itr stepV m ([], (rest, sh)) := by rw [hm]; rfl
    rw [hV, ← hm]
    cases sh with
    | true =>
      have := itrV_short ([], (rest, true)) m rfl
      simp [upOk, this]
    | false =>
      simp only [Bool.false_eq_true, if_false]
      by_cases c : rest.length = 5 * m
      · rw [itrV_ok [] rest m (by omega)]
        have hd : (rest.drop (5 * m)).isEmpty = true := by simp; omega
        have hkd : (x0.toNat == 1 || x0.toNat == 2) = true := by simp; omega
        have hd' : rest.length ≤ 5 * m := by omega
        have hkd' : x0.toNat = 1 ∨ x0.toNat = 2 := by omega
        rw [if_neg (show ¬ (rest.length ≠ 5 * m) from fun h => h c)]
        simp only [upOk, hd, hkd, Bool.not_false, Bool.true_and]
        refine ⟨trivial, fun _ => ⟨_, _, _, rfl, (by omega : ks.length ≤ 1000000), by simp; omega⟩⟩
      · rw [if_pos c]
        by_cases c2 : rest.length < 5 * m
        · have := itrV_cut [] rest m c2
          simp [upOk, this]
        · rw [itrV_ok [] rest m (by omega)]
          have hd : (rest.drop (5 * m)).isEmpty = false := by simp; omega
          simp only [upOk, hd, Bool.and_false, Bool.false_and]
          simp

theorem up_short (b : List UInt8) (hb : b.length < 2) : upP (nmR (b, false) 1).1 (nmR (nmR (b, false) 1).2 1).1 (nmR (nmR (b, false) 1).2 1).2 = .tp [nodeP false [] [], .int 10] := by
  have hs : (nmR (nmR (b, false) 1).2 1).2.2 = true := by
    match b, hb with
    | [], _ => rfl
    | [x], _ => rw [nmR_cons]; rfl
  generalize (nmR (b, false) 1).1 = kind
  generalize nmR (nmR (b, false) 1).2 1 = y at hs
  obtain ⟨k, s⟩ := y
  simp only at hs ⊢
  have h1 : (upK k s).2.2 = true := itrK_short ([], s) (Nat.zero_le k) hs
  have h2 := itrV_short ([], (upK k s).2) (k + if kind = 1 then 0 else 1) h1
  simp only [upP]
  have h3 : upV kind k (upK k s).2 = itr stepV (k + if kind = 1 then 0 else 1) ([], (upK k s).2) := rfl
  rw [h3]
  simp [upOk, h2]

theorem itrK_pack {ks : List (List UInt8)} {R : List UInt8} (h : ∀ s ∈ ks, s.length ≤ 100) : ∀ i, i ≤ ks.length → itr stepK i ([], (packK ks ++ R, false)) = (ks.take i, (packK (ks.drop i) ++ R, false)) := by
  intro i
  induction i with
  | zero => intro _; simp [itr]
  | succ i ih =>
    intro hi
    have c : i < ks.length := by omega
    have hl := h ks[i] (by simp)
    have e : packK (ks.drop i) ++ R = UInt8.ofNat ks[i].length :: (ks[i] ++ (packK (ks.drop (i + 1)) ++ R)) := by
      rw [List.drop_eq_getElem_cons c]; simp only [packK, List.flatMap_cons, List.cons_append, List.append_assoc]
    have t : (UInt8.ofNat ks[i].length).toNat = ks[i].length := by simp; omega
    rw [itr, ih (by omega), e, stepK_cons _ _ _ (by rw [t]; simp), t, List.take_succ_eq_append_getElem c]
    simp
theorem numV_be5 {v : Int} (h : vB v = true) : ((numV (be5 v) : Nat) : Int) = v := by
  simp only [vB, Bool.and_eq_true, decide_eq_true_eq] at h
  obtain ⟨m, rfl⟩ : ∃ m : Nat, v = m := ⟨v.toNat, by omega⟩
  simp [numV, be5, byteAt]
  omega
theorem packI_at {vs : List Int} : ∀ {i : Nat} (h : i < vs.length), ((packI vs).drop (5 * i)).take 5 = be5 vs[i] := by
  induction vs with
  | nil => intro i h; simp at h
  | cons v vs ih =>
    intro i h
    have e : packI (v :: vs) = be5 v ++ packI vs := rfl
    have l : (be5 v).length = 5 := rfl
    cases i with
    | zero => rw [e]; simp [List.take_append, l]
    | succ i =>
      have := ih (i := i) (by simpa using h)
      rw [e, List.drop_append, l, List.drop_of_length_le (by rw [l]; omega)]
      simpa [Nat.mul_add] using this
theorem packI_l5 (vs : List Int) : (packI vs).length = 5 * vs.length := by
  induction vs with
  | nil => rfl
  | cons v vs ih => have e : packI (v :: vs) = be5 v ++ packI vs := rfl
                    rw [e, List.length_append, ih]; simp [be5]; omega
/-- a node's octets are read -/
theorem up_pack {l : Bool} {ks : List (List UInt8)} {vs : List Int} (h : rightB l ks vs = true) :
    upP (nmR (packB l ks vs, false) 1).1 (nmR (nmR (packB l ks vs, false) 1).2 1).1 (nmR (nmR (packB l ks vs, false) 1).2 1).2 = .tp [nodeP l ks vs, .int 0] := by
  obtain ⟨_, k4, hf, k100⟩ := right_chn h
  have e : packB l ks vs = (if l then 1 else 2) :: UInt8.ofNat ks.length :: (packK ks ++ packI vs) := by simp [packB, packH]
  have t : (UInt8.ofNat ks.length).toNat = ks.length := by simp; omega
  rw [e, nmR_cons]
  simp only
  rw [nmR_cons]
  simp only
  rw [t]
  have hK : upK ks.length (packK ks ++ packI vs, false) = (ks, (packI vs, false)) := by
    have := itrK_pack (R := packI vs) k100 ks.length (Nat.le_refl _)
    simpa [packK, upK] using this
  have hm : vs.length = ks.length + (if l then 0 else 1) := by simpa [fmd] using hf
  have hV : upV (if l then 1 else 2 : UInt8).toNat ks.length (packI vs, false) = (vs, ([], false)) := by
    have e2 : ks.length + (if (if l then 1 else 2 : UInt8).toNat = 1 then 0 else 1) = vs.length := by rw [hm]; cases l <;> simp
    unfold upV
    rw [e2, itrV_ok [] _ _ (by rw [packI_l5]; omega)]
    congr 1
    · apply List.ext_getElem
      · simp
      · intro i h1 h2
        have h2' : i < vs.length := h2
        simp [packI_at h2', numV_be5 (right_vals h _ (List.getElem_mem h2'))]
    · rw [List.drop_of_length_le (by rw [packI_l5]; omega)]
  unfold upP
  rw [hK]
  simp only
  rw [hV]
  cases l <;> simp [upOk, h]

/-- octets, as a row has them -/
theorem u8s_of {xs : List PC} (h : ∀ y ∈ xs, ∃ n, y = .sc (.int .u8 n) ∧ (Lit.int .u8 n).wf = true) : ∃ b : List UInt8, xs = bytesPC b := by
  induction xs with
  | nil => exact ⟨[], rfl⟩
  | cons x xs ih =>
    obtain ⟨b, rfl⟩ := ih fun y hy => h y (by simp [hy])
    obtain ⟨n, rfl, hw⟩ := h x (by simp)
    refine ⟨UInt8.ofNat n.toNat :: b, ?_⟩
    have hn : 0 ≤ n ∧ n < 256 := by
      have hmin : IntKind.u8.min = 0 := rfl
      have hmax : IntKind.u8.max = 255 := rfl
      simp only [Lit.wf, Bool.and_eq_true, decide_eq_true_eq, hmin, hmax] at hw
      omega
    simp [bytesPC]; omega

def bytesS (x : PC) : Prop := ∃ b : List UInt8, x = .sl (bytesPC b)
theorem cellsT5 : Try.prog.cellsOf 5 = 1 := by kernel_rfl
theorem rd46 : RdV Try.prog 46 bytesS :=
  rv_one (by rw [Try.underlying46]; simp) (by rw [Try.underlying46]; simp) ((rd_slice Try.underlying46 (by rw [cellsT5]; omega) (rd_int Try.underlying5)).mono fun x ⟨xs, h, _, hv⟩ => by
    obtain ⟨vs, rfl⟩ := u8s_of hv; exact ⟨vs, h⟩) (by rintro x ⟨s, rfl⟩ b xs h; cases h)

theorem unpack30p {l : Bool} {ks : List (List UInt8)} {vs : List Int} (h : rightB l ks vs = true) : PureC Try.prog 30 [.sl (bytesPC (packB l ks vs))] (.tp [nodeP l ks vs, .int 0]) := by
  have hb : (packB l ks vs).length ≤ 9223372036854775807 := by
    obtain ⟨_, k4, hf, k100⟩ := right_chn h
    have h1 := packK_len k100 k4
    have hm : vs.length = ks.length + (if l then 0 else 1) := by simpa [fmd] using hf
    have hm : vs.length ≤ 5 := by rw [hm]; split <;> omega
    have h2 := packI_len hm
    simp [packB, packH]; omega
  have := unpack30 (packB l ks vs) hb
  rwa [up_pack h] at this

theorem refP_node (x0 x1 : UInt8) (r : List UInt8) : ∃ l ks vs, (refP x0 x1 r).1 = nodeP l ks vs := by
  unfold refP
  generalize (x1.toNat + if x0.toNat = 1 then 0 else 1) = m
  split
  · exact ⟨_, _, _, rfl⟩
  · split
    · exact ⟨_, _, _, rfl⟩
    · split <;> exact ⟨_, _, _, rfl⟩
/-- what both readings say of octets -/
theorem unpack_both (b : List UInt8) (hb : b.length ≤ 3000) : (PureC Try.prog 30 [.sl (bytesPC b)] (.tp [nodeP false [] [], .int 10]) ∧ ∃ l ks vs, PureC Try.prog 32 [.sl (bytesPC b)] (.tp [nodeP l ks vs, .bool false])) ∨
    ∃ l ks vs, PureC Try.prog 30 [.sl (bytesPC b)] (.tp [nodeP l ks vs, .int 0]) ∧ PureC Try.prog 32 [.sl (bytesPC b)] (.tp [nodeP l ks vs, .bool true]) ∧ ks.length ≤ 1000000 ∧ vs.length ≤ 1000000 := by
  have h30 := unpack30 b (by omega)
  by_cases c : b.length < 2
  · rw [up_short b c] at h30
    exact .inl ⟨h30, _, _, _, unpack32s b c⟩
  · match b, c, h30 with
    | [], c, _ => simp at c
    | [_], c, _ => simp at c
    | x0 :: x1 :: r, _, h30 =>
      rw [nmR_cons] at h30
      simp only at h30
      rw [nmR_cons] at h30
      simp only at h30
      have h32 := unpack32 x0 x1 r (by simp at hb; omega)
      obtain ⟨e1, e2⟩ := up_ref x0 x1 r
      rw [e1] at h30
      cases hc : (refP x0 x1 r).2 with
      | false =>
        obtain ⟨l, ks, vs, e3⟩ := refP_node x0 x1 r
        rw [hc, e3] at h30 h32; exact .inl ⟨by simpa using h30, _, _, _, h32⟩
      | true =>
        obtain ⟨l, ks, vs, e3, e4, e5⟩ := e2 hc
        rw [hc, e3] at h30 h32
        exact .inr ⟨l, ks, vs, by simpa using h30, h32, e4, e5⟩

set_option maxHeartbeats 2000000 in
set_option maxRecDepth 100000 in
theorem law8 (l : Bool) (ks : List (List UInt8)) (vs : List Int) (b : List UInt8) : PureC Try.prog 8 [nodeP l ks vs, .sl (bytesPC b)] (.bool true) := by
  refine pure_of_aw (ys := [_]) [] [(9, [(11, .r 1)])] [(1, 0)] mixed Try.func8 rfl (by kernel_rfl) (by kernel_rfl) (by simp [Try.ntmps8]) rfl ?_
  simp
  refine pcall_of awake9 (by simp) ?_
  simp
  refine pcall_of (few10 l ks vs) (by simp) ?_
  by_cases h1 : fewB ks vs = true
  · simp [h1]
    have hB : bytesPC_len b = bytesPC_len b := rfl
    by_cases h2 : b.length ≤ 3000
    · have h2' : decide ((3000 : Int) < b.length) = false := by simp; omega
      simp [bytesPC_len, h2']
      have hf := h1
      simp [fewB] at hf
      refine pcall_of (right21 l ks vs (by omega) (fun s hs => by have := hf.2 s hs; omega)) (by simp) ?_
      cases hr : rightB l ks vs with
      | false =>
        simp
        refine pcall_of (pack28n l ks vs hr (by omega) (by omega)) (by simp) ?_
        simp
        refine pcall_of (right29 l ks vs (by omega) (by omega)) (by simp) ?_
        simp [hr]
        rcases unpack_both b h2 with ⟨u30, l', K', V', u32⟩ | ⟨L, K, V, u30, u32, hK, hV⟩
        · refine ⟨(bytes_bor b).2.1, by omega, by omega, pcall_of u30 (by simp) ?_⟩
          simp
          refine pcall_of u32 (by simp) ?_
          simp
          refine pcall_of (same18 false [] [] false [] [] (by simp) (by simp)) (by simp) ?_
          simp [Try.results8]
        · refine ⟨(bytes_bor b).2.1, by omega, by omega, pcall_of u30 (by simp) ?_⟩
          simp
          refine pcall_of u32 (by simp) ?_
          simp
          refine pcall_of (same18 L K V L K V (by omega) (by omega)) (by simp) ?_
          simp [Try.results8]
      | true =>
        simp
        refine pcall_of (pack28 l ks vs hr (by omega) (by omega)) (by simp) ?_
        simp
        refine pcall_of (right29 l ks vs (by omega) (by omega)) (by simp) ?_
        simp [hr]
        refine pcall_of (unpack30p hr) (by simp) ?_
        simp
        refine call_of (pack31 l ks vs hr (by omega) (by omega)) ?_
        simp
        refine call_of (same18 l ks vs l ks vs (by omega) (by omega)) ?_
        simp
        rcases unpack_both b h2 with ⟨u30, l', K', V', u32⟩ | ⟨L, K, V, u30, u32, hK, hV⟩
        · refine ⟨(bytes_bor b).2.1, by omega, by omega, pcall_of u30 (by simp) ?_⟩
          simp
          refine pcall_of u32 (by simp) ?_
          simp
          refine pcall_of (same18 false [] [] false [] [] (by simp) (by simp)) (by simp) ?_
          simp [Try.results8]
        · refine ⟨(bytes_bor b).2.1, by omega, by omega, pcall_of u30 (by simp) ?_⟩
          simp
          refine pcall_of u32 (by simp) ?_
          simp
          refine pcall_of (same18 L K V L K V (by omega) (by omega)) (by simp) ?_
          simp [Try.results8]
    · have h2' : decide ((3000 : Int) < b.length) = true := by simp; omega
      simp [bytesPC_len, h2']
      refine pcall_of awake9 (by simp) ?_
      simp [Try.results8]
  · simp [h1]
    refine pcall_of awake9 (by simp) ?_
    simp [Try.results8]
theorem law8n {x y : PC} (hx : nodeS x) (hy : bytesS y) : PureC Try.prog 8 [x, y] (.bool true) := by
  obtain ⟨l, ks, vs, rfl⟩ := hx
  obtain ⟨b, rfl⟩ := hy
  exact law8 l ks vs b
end Go.Av
