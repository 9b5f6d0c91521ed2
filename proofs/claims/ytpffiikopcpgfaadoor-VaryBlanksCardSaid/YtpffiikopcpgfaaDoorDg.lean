/- How a line is read again; StartBounds computes true. -/
import Derived.Test.YtpffiikopcpgfaaDoorDf
set_option linter.all false
/-! part Q35 -/
namespace Go.Av
open Go.Proofs

theorem line_full {L tail : List UInt8} (hL : noLF L) {most : Nat} (hm : L.length + 1 ≤ most) : lineB (L ++ 13 :: 10 :: tail) most = (L, ((L.length + 2 : Nat) : Int), (0 : Int)) := by
  have hlen : (L ++ 13 :: 10 :: tail).length = L.length + 2 + tail.length := by simp; omega
  have e13 : (L ++ 13 :: 10 :: tail)[L.length]? = some 13 := by rw [List.getElem?_append_right (Nat.le_refl _), Nat.sub_self]; rfl
  have e10 : (L ++ 13 :: 10 :: tail)[L.length + 1]? = some 10 := by rw [List.getElem?_append_right (by omega), Nat.add_sub_cancel_left]; rfl
  have etk : (L ++ 13 :: 10 :: tail).take (L.length + 1) = L ++ [13] := by
    have : L ++ (13 : UInt8) :: 10 :: tail = (L ++ [13]) ++ 10 :: tail := by simp
    rw [this]
    have hl : (L ++ [(13 : UInt8)]).length = L.length + 1 := by simp
    rw [← hl]; exact List.take_left
  have etk2 : (L ++ (13 : UInt8) :: 10 :: tail).take L.length = L := List.take_left
  generalize L ++ 13 :: 10 :: tail = b at *
  have hi : ixB (b.take (min b.length (most + 1))) 10 = ((L.length + 1 : Nat) : Int) := by
    refine ixB_eq (by rw [List.length_take]; omega) (fun x hx => ?_) ?_
    · rw [List.take_take, Nat.min_eq_left (by omega), etk] at hx
      exact noLF_app hL (noLF_cons (by decide) (fun _ h => by cases h)) x hx
    · rw [List.getElem_take]
      have := (List.getElem?_eq_some_iff.1 e10).2
      exact this
  unfold lineB
  simp only
  rw [hi, if_neg (by omega), Int.toNat_natCast, Nat.add_sub_cancel, e13, if_neg (by simp; omega), etk2]
  simp; omega
theorem rreqS_line (n : Int) (a t v : List UInt8) (ha : a.count 32 = 0) (ht : t.count 32 = 0) :
    rreqS n (a ++ 32 :: (t ++ 32 :: v)) = match minB v with
      | none => ((st0, 0, 10) : StV × Int × Int)
      | some k => if tkB a = true ∧ visB t = true then (if a.length ≤ 32 ∧ t.length ≤ 8000 then (⟨a, t, 0, [], k⟩, n, 0) else (st0, 0, 12)) else (st0, 0, 10) := by
  have h1 : spI (a ++ 32 :: (t ++ 32 :: v)) = a.length := spI_first (by rw [List.getElem?_append_right (Nat.le_refl _), Nat.sub_self]; rfl) (by rw [List.take_left]; exact ha)
  have h2 : spI (t ++ 32 :: v) = t.length := spI_first (by rw [List.getElem?_append_right (Nat.le_refl _), Nat.sub_self]; rfl) (by rw [List.take_left]; exact ht)
  have d1 : (a ++ (32 : UInt8) :: (t ++ 32 :: v)).drop (a.length + 1) = t ++ 32 :: v := by
    have : a ++ (32 : UInt8) :: (t ++ 32 :: v) = (a ++ [32]) ++ (t ++ 32 :: v) := by simp
    rw [this]
    have hl : (a ++ [(32 : UInt8)]).length = a.length + 1 := by simp
    rw [← hl]; exact List.drop_left
  have d2 : (t ++ (32 : UInt8) :: v).drop (t.length + 1) = v := by
    have : t ++ (32 : UInt8) :: v = (t ++ [32]) ++ v := by simp
    rw [this]
    have hl : (t ++ [(32 : UInt8)]).length = t.length + 1 := by simp
    rw [← hl]; exact List.drop_left
  unfold rreqS
  rw [h1, d1, if_neg (by simp), List.take_left]
  simp only
  rw [h2, d2, if_neg (by simp), List.take_left]
  cases minB v <;> rfl
theorem rresS_line (n : Int) (a b c : List UInt8) (ha : a.length = 8) (hb : b.length = 3) :
    rresS n (a ++ 32 :: (b ++ 32 :: c)) = if (numB 999 b).2 ≠ 0 ∨ (numB 999 b).1 < 100 then ((st0, 0, 10) : StV × Int × Int) else match minB a with
      | none => ((st0, 0, 10) : StV × Int × Int)
      | some k => if rvalB c = true then (if c.length ≤ 200 then (⟨[], [], (numB 999 b).1, c, k⟩, n, 0) else (st0, 0, 12)) else (st0, 0, 10) := by
  obtain ⟨s, e⟩ : ∃ s, s = a ++ 32 :: (b ++ 32 :: c) := ⟨_, rfl⟩
  rw [← e]
  have l8 : s[8]? = some 32 := by rw [e, List.getElem?_append_right (by omega), ha]; rfl
  have e2 : s = (a ++ 32 :: b) ++ 32 :: c := by rw [e]; simp
  have lab : (a ++ (32 : UInt8) :: b).length = 12 := by simp; omega
  have l12 : s[12]? = some 32 := by rw [e2, List.getElem?_append_right (by omega), lab]; rfl
  have hlen : ¬ s.length < 13 := by rw [e2, List.length_append, lab]; simp; omega
  have t8 : s.take 8 = a := by rw [e, ← ha]; exact List.take_left
  have t12 : s.take 12 = a ++ 32 :: b := by rw [e2, ← lab]; exact List.take_left
  have d9 : (s.take 12).drop 9 = b := by
    have : a ++ (32 : UInt8) :: b = (a ++ [32]) ++ b := by simp
    rw [t12, this]
    have l9 : (a ++ [(32 : UInt8)]).length = 9 := by simp; omega
    rw [← l9]; exact List.drop_left
  have d13 : s.drop 13 = c := by
    have : s = (a ++ 32 :: b ++ [32]) ++ c := by rw [e2]; simp
    rw [this]
    have l9 : (a ++ (32 : UInt8) :: b ++ [32]).length = 13 := by simp; omega
    rw [← l9]; exact List.drop_left
  unfold rresS
  rw [if_neg (by rw [l8, l12]; simp; omega)]
  simp only
  rw [d9, d13, t8]
  split
  · rfl
  · cases minB a <;> rfl
theorem noB_all {p : UInt8 → Bool} {l : List UInt8} (h : l.all p = true) (hp : p 32 = false) : l.count 32 = 0 := by
  refine List.count_eq_zero.2 fun hm => ?_
  have := List.all_eq_true.1 h 32 hm
  rw [hp] at this; cases this
theorem tk_noB {l : List UInt8} (h : tkB l = true) : l.count 32 = 0 := by
  unfold tkB at h; simp only [Bool.and_eq_true] at h
  exact noB_all h.2 (by kernel_rfl)
theorem vis_noB {l : List UInt8} (h : visB l = true) : l.count 32 = 0 := by
  unfold visB at h; simp only [Bool.and_eq_true] at h
  exact noB_all h.2 (by kernel_rfl)
end Go.Av

/-! part Q36 -/
namespace Go.Av
open Go.Proofs

/-- so many of an octet -/
def rpB (c : UInt8) (n : Nat) : List UInt8 := List.replicate n c
theorem rpB_snoc (c : UInt8) (n : Nat) : rpB c n ++ [c] = rpB c (n + 1) := by unfold rpB; rw [List.replicate_succ']
theorem rpB_len (c : UInt8) (n : Nat) : (rpB c n).length = n := List.length_replicate
theorem rpB_zero (c : UInt8) : rpB c 0 = [] := rfl
theorem rpB_all {c : UInt8} {p : UInt8 → Bool} (h : p c = true) (n : Nat) : (rpB c n).all p = true := by
  rw [List.all_eq_true]; intro x hx; unfold rpB at hx; rw [List.eq_of_mem_replicate hx]; exact h
theorem rpB_ne {c : UInt8} {n : Nat} (h : 0 < n) : rpB c n ≠ [] := by
  intro e; have := congrArg List.length e; rw [rpB_len] at this; simp at this; omega
def v11 : List UInt8 := [72, 84, 84, 80, 47, 49, 46, 49]
theorem v11_min : minB v11 = some 1 := by kernel_rfl
theorem v11_LF : noLF v11 := by
  intro x hx
  simp only [v11, List.mem_cons, List.not_mem_nil, or_false] at hx
  rcases hx with rfl | rfl | rfl | rfl | rfl | rfl | rfl | rfl <;> decide
theorem req_line {a t : List UInt8} (ha : tkB a = true) (ht : visB t = true) (hlen : a.length + t.length ≤ 8100) :
    reqB (a ++ 32 :: (t ++ 32 :: (v11 ++ [13, 10]))) = if a.length ≤ 32 ∧ t.length ≤ 8000 then (⟨a, t, 0, [], 1⟩, ((a.length + t.length + 12 : Nat) : Int), 0) else (st0, 0, 12) := by
  have e : a ++ 32 :: (t ++ 32 :: (v11 ++ [13, 10])) = (a ++ 32 :: (t ++ 32 :: v11)) ++ 13 :: 10 :: [] := by simp
  have hl : (a ++ (32 : UInt8) :: (t ++ 32 :: v11)).length = a.length + t.length + 10 := by simp [v11]; omega
  have hf := line_full (L := a ++ 32 :: (t ++ 32 :: v11)) (tail := []) (noLF_app (tk_noLF ha) (noLF_cons (by decide) (noLF_app (vis_noLF ht) (noLF_cons (by decide) v11_LF)))) (most := 8200) (by omega)
  rw [← rreq_eq]
  unfold rreqB
  rw [e, hf]
  simp only
  rw [if_pos trivial, rreqS_line _ _ _ _ (tk_noB ha) (vis_noB ht), v11_min]
  simp only
  rw [if_pos ⟨ha, ht⟩, hl]
  rfl
theorem res_line {r : List UInt8} (hr : rvalB r = true) (hlen : r.length ≤ 250) :
    resB (v11 ++ 32 :: ([50, 48, 48] ++ 32 :: (r ++ [13, 10]))) = if r.length ≤ 200 then (⟨[], [], 200, r, 1⟩, ((r.length + 15 : Nat) : Int), 0) else (st0, 0, 12) := by
  have e : v11 ++ 32 :: ([50, 48, 48] ++ 32 :: (r ++ [13, 10])) = (v11 ++ 32 :: ([50, 48, 48] ++ 32 :: r)) ++ 13 :: 10 :: [] := by simp
  have hl : (v11 ++ (32 : UInt8) :: ([50, 48, 48] ++ 32 :: r)).length = r.length + 13 := by simp [v11]
  have hf := line_full (L := v11 ++ 32 :: ([50, 48, 48] ++ 32 :: r)) (tail := []) (noLF_app v11_LF (noLF_cons (by decide) (noLF_cons (by decide) (noLF_cons (by decide) (noLF_cons (by decide) (noLF_cons (by decide) (val_noLF hr))))))) (most := 300) (by omega)
  have hn : numB 999 [50, 48, 48] = (200, 0) := by kernel_rfl
  rw [← rres_eq]
  unfold rresB
  rw [e, hf]
  simp only
  rw [if_pos trivial, rresS_line _ _ _ _ rfl rfl, hn, if_neg (by simp), v11_min]
  simp only
  rw [if_pos hr, hl]
  rfl
theorem zero_line {n most : Nat} : lineB (rpB 0 n) most = if n ≤ most then ([], 0, 11) else ([], 0, 12) := by
  have hn : noLF (rpB 0 n) := noLF_all (p := fun c => c == 0) (rpB_all (by rfl) n) (by rfl)
  unfold lineB
  simp only
  rw [ixB_none fun x hx => hn x (List.mem_of_mem_take hx), if_pos (by omega), rpB_len]
theorem zero_req (n : Nat) : reqB (rpB 0 n) = (st0, 0, if n ≤ 8200 then 11 else 12) := by
  unfold reqB
  rw [zero_line]
  by_cases h : n ≤ 8200
  · simp [h]
  · simp [h]
theorem zero_res (n : Nat) : resB (rpB 0 n) = (st0, 0, if n ≤ 300 then 11 else 12) := by
  unfold resB
  rw [zero_line]
  by_cases h : n ≤ 300
  · simp [h]
  · simp [h]
/-- a row of octets, lent -/
theorem bor_byu {bx : List (Nat × Ob)} {k id n : Nat} {el : TypeId} {c : Option Nat} {L : List UInt8} (hn : n = L.length) (h : lk id bx = some ⟨el, 1, (bytesPC L).map .p⟩) : borF bx (k + 1) (.view id 0 n 1 c) (.sl (bytesPC L)) := by
  refine ⟨_, h, by omega, by simp [hn], by simp [hn], ?_, ?_, ?_⟩
  · rw [flat_pcs, flat_one (fun x hx => by simp only [bytesPC, List.mem_map] at hx; obtain ⟨_, _, rfl⟩ := hx; rfl)]
    subst hn
    simp [bytesPC]
    try exact List.take_of_length_le (by simp)
  · intro y hy; simp only [bytesPC, List.mem_map] at hy; obtain ⟨e, _, rfl⟩ := hy; rfl
  · intro y hy; simp only [bytesPC, List.mem_map] at hy; obtain ⟨e, _, rfl⟩ := hy; rfl
theorem rep_zero (n : Nat) : List.replicate n (AV.p (PC.sc (Value.int .u8 0))) = (bytesPC (rpB 0 n)).map .p := by
  unfold rpB bytesPC; simp
set_option maxHeartbeats 4000000 in
set_option maxRecDepth 100000 in
theorem law5 (more : Int) : PureC Tryd.prog 5 [.int more] (.bool true) := by
  refine pure_of_aw (ys := [_]) [] [] [] mixed Tryd.func5 rfl (by kernel_rfl) (by kernel_rfl) (by simp [Tryd.ntmps5]) rfl ?_
  obtain ⟨k, hkk⟩ : ∃ k, k = modK more 5 := ⟨_, rfl⟩
  have e1 := modK_eq more (n := 5) (by omega)
  have e2 := modK_wrap more (n := 5) (by omega) (by omega)
  have hk := modK_lt more (n := 5) (by omega)
  rw [← hkk] at e1 hk
  simp only [Int.cast_ofNat_Int] at e1 e2
  simp
  refine pcall_of awake18 (by simp) ?_
  have w1 : IntKind.i64.wrap (30 + (k : Int)) = ((30 + k : Nat) : Int) := by rw [wrap64_id (by omega) (by omega)]; omega
  have w2 : IntKind.i64.wrap (7997 + (k : Int)) = ((7997 + k : Nat) : Int) := by rw [wrap64_id (by omega) (by omega)]; omega
  have w3 : IntKind.i64.wrap (198 + (k : Int)) = ((198 + k : Nat) : Int) := by rw [wrap64_id (by omega) (by omega)]; omega
  have w4 : IntKind.i64.wrap (8200 + (k : Int)) = ((8200 + k : Nat) : Int) := by rw [wrap64_id (by omega) (by omega)]; omega
  have w5 : IntKind.i64.wrap (300 + (k : Int)) = ((300 + k : Nat) : Int) := by rw [wrap64_id (by omega) (by omega)]; omega
  simp [e1, e2]
  refine aw_loop0 (fun i : Nat => i ≤ 30 + k) (fun i => [(3, .p (.int k)), (4, .p (.str (rpB 77 i))), (5, .p (.str [47])), (6, .p (.str [])), (7, .p (.int i))]) (fun i => 30 + k - i) 0 (by simp) (leN_id (by simp [rpB_zero])) ?_
  intro i hi
  by_cases c : i < 30 + k
  · have d : (i : Int) < 30 + (k : Int) := by omega
    simp [w1, c, d, rpB_len, rpB_snoc]
    refine ⟨by omega, i + 1, by omega, by omega, leN_id ?_⟩
    simp [wrap64_id (n := (i : Int) + 1) (by omega) (by omega)]
  obtain rfl : i = 30 + k := by omega
  simp [w1]
  refine aw_loop0 (fun i : Nat => i ≤ 7997 + k) (fun i => [(3, .p (.int k)), (4, .p (.str (rpB 77 (30 + k)))), (5, .p (.str (47 :: rpB 120 i))), (6, .p (.str [])), (8, .p (.int i))]) (fun i => 7997 + k - i) 0 (by simp) (leN_id (by simp [rpB_zero])) ?_
  intro i hi
  by_cases c : i < 7997 + k
  · have d : (i : Int) < 7997 + (k : Int) := by omega
    simp [w2, c, d, rpB_len, rpB_snoc]
    refine ⟨by omega, i + 1, by omega, by omega, leN_id ?_⟩
    simp [wrap64_id (n := (i : Int) + 1) (by omega) (by omega)]
  obtain rfl : i = 7997 + k := by omega
  simp [w2]
  refine aw_loop0 (fun i : Nat => i ≤ 198 + k) (fun i => [(3, .p (.int k)), (4, .p (.str (rpB 77 (30 + k)))), (5, .p (.str (47 :: rpB 120 (7997 + k)))), (6, .p (.str (rpB 114 i))), (9, .p (.int i))]) (fun i => 198 + k - i) 0 (by simp) (leN_id (by simp [rpB_zero])) ?_
  intro i hi
  by_cases c : i < 198 + k
  · have d : (i : Int) < 198 + (k : Int) := by omega
    simp [w3, c, d, rpB_len, rpB_snoc]
    refine ⟨by omega, i + 1, by omega, by omega, leN_id ?_⟩
    simp [wrap64_id (n := (i : Int) + 1) (by omega) (by omega)]
  obtain rfl : i = 198 + k := by omega
  simp [w3, rpB_len]
  refine ⟨by omega, ?_⟩
  have hM : tkB (rpB 77 (30 + k)) = true := by unfold tkB; rw [rpB_all (by rfl)]; simp [rpB_ne (c := 77) (n := 30 + k) (by omega)]
  have hT : visB (47 :: rpB 120 (7997 + k)) = true := by unfold visB; rw [List.all_cons, rpB_all (by rfl)]; simp; rfl
  have hV : rvalB (rpB 114 (198 + k)) = true := by
    unfold rvalB
    have e : rpB 114 (198 + k) = rpB 114 (197 + k) ++ [114] := by rw [rpB_snoc]; congr 1; omega
    have e2 : rpB 114 (198 + k) = 114 :: rpB 114 (197 + k) := by unfold rpB; rw [show 198 + k = (197 + k) + 1 by omega]; rfl
    rw [rpB_all (by rfl)]
    have h1 : (rpB 114 (198 + k)).headD 0 = 114 := by rw [e2]; rfl
    have h2 : (rpB 114 (198 + k)).getLastD 0 = 114 := by rw [e]; simp
    rw [h1, h2]; simp; right; rfl
  have r1 := req_line (a := rpB 77 (30 + k)) (t := [47]) hM (by rfl) (by rw [rpB_len]; simp; omega)
  have r2 := req_line (a := [71, 69, 84]) (t := 47 :: rpB 120 (7997 + k)) (by rfl) hT (by simp [rpB_len]; omega)
  have r3 := res_line (r := rpB 114 (198 + k)) hV (by rw [rpB_len]; omega)
  have z1 : (reqB (rpB 77 (30 + k) ++ [32, 47, 32, 72, 84, 84, 80, 47, 49, 46, 49, 13, 10])).2.2 = if k ≤ 2 then 0 else 12 := by
    rw [show rpB 77 (30 + k) ++ [32, 47, 32, 72, 84, 84, 80, 47, 49, 46, 49, 13, 10] = rpB 77 (30 + k) ++ 32 :: ([47] ++ 32 :: (v11 ++ [13, 10])) from rfl, r1, rpB_len]
    by_cases h : k ≤ 2
    · rw [if_pos ⟨by omega, by simp⟩, if_pos h]
    · rw [if_neg (by omega), if_neg h]
  have z2 : (reqB (71 :: 69 :: 84 :: 32 :: 47 :: (rpB 120 (7997 + k) ++ [32, 72, 84, 84, 80, 47, 49, 46, 49, 13, 10]))).2.2 = if k ≤ 2 then 0 else 12 := by
    rw [show 71 :: 69 :: 84 :: 32 :: 47 :: (rpB 120 (7997 + k) ++ [32, 72, 84, 84, 80, 47, 49, 46, 49, 13, 10]) = [71, 69, 84] ++ 32 :: ((47 :: rpB 120 (7997 + k)) ++ 32 :: (v11 ++ [13, 10])) from rfl, r2]
    simp only [List.length_cons, rpB_len]
    by_cases h : k ≤ 2
    · rw [if_pos ⟨by simp, by omega⟩, if_pos h]
    · rw [if_neg (by omega), if_neg h]
  have z3 : (resB (72 :: 84 :: 84 :: 80 :: 47 :: 49 :: 46 :: 49 :: 32 :: 50 :: 48 :: 48 :: 32 :: (rpB 114 (198 + k) ++ [13, 10]))).2.2 = if k ≤ 2 then 0 else 12 := by
    rw [show 72 :: 84 :: 84 :: 80 :: 47 :: 49 :: 46 :: 49 :: 32 :: 50 :: 48 :: 48 :: 32 :: (rpB 114 (198 + k) ++ [13, 10]) = v11 ++ 32 :: ([50, 48, 48] ++ 32 :: (rpB 114 (198 + k) ++ [13, 10])) from rfl, r3, rpB_len]
    by_cases h : k ≤ 2
    · rw [if_pos (by omega), if_pos h]
    · rw [if_neg (by omega), if_neg h]
  have z4 := congrArg (fun x => x.2.2) (zero_req (8200 + k))
  have z5 := congrArg (fun x => x.2.2) (zero_res (300 + k))
  simp only at z4 z5
  refine pcall_of (request19 (rpB 77 (30 + k) ++ [32, 47, 32, 72, 84, 84, 80, 47, 49, 46, 49, 13, 10]) (by simp [rpB_len]; omega)) (by simp) ?_
  generalize reqB (rpB 77 (30 + k) ++ [32, 47, 32, 72, 84, 84, 80, 47, 49, 46, 49, 13, 10]) = x1 at *
  simp [rpB_len]
  refine ⟨by omega, by omega, ?_⟩
  refine pcall_of (request19 (71 :: 69 :: 84 :: 32 :: 47 :: (rpB 120 (7997 + k) ++ [32, 72, 84, 84, 80, 47, 49, 46, 49, 13, 10])) (by simp [rpB_len]; omega)) (by simp) ?_
  generalize reqB (71 :: 69 :: 84 :: 32 :: 47 :: (rpB 120 (7997 + k) ++ [32, 72, 84, 84, 80, 47, 49, 46, 49, 13, 10])) = x2 at *
  simp [rpB_len]
  refine ⟨by omega, by omega, ?_⟩
  refine pcall_of (response21 (72 :: 84 :: 84 :: 80 :: 47 :: 49 :: 46 :: 49 :: 32 :: 50 :: 48 :: 48 :: 32 :: (rpB 114 (198 + k) ++ [13, 10])) (by simp [rpB_len]; omega)) (by simp) ?_
  generalize resB (72 :: 84 :: 84 :: 80 :: 47 :: 49 :: 46 :: 49 :: 32 :: 50 :: 48 :: 48 :: 32 :: (rpB 114 (198 + k) ++ [13, 10])) = x3 at *
  simp [w4]
  have n4 : (8200 + (k : Int)).toNat = 8200 + k := by omega
  have n5 : (300 + (k : Int)).toNat = 300 + k := by omega
  refine ⟨by omega, by omega, by unfold maxLen; omega, ?_⟩
  rw [n4, rep_zero]
  refine bcall_of0 (request19 (rpB 0 (8200 + k)) (by rw [rpB_len]; omega)) ⟨bor_byu (el := 5) (rpB_len _ _).symm (by simp [lk]), trivial⟩ (by rfl) ?_
  generalize reqB (rpB 0 (8200 + k)) = x4 at *
  simp [w5]
  refine ⟨by omega, by omega, by unfold maxLen; omega, ?_⟩
  rw [n5, rep_zero]
  refine bcall_of0 (response21 (rpB 0 (300 + k)) (by rw [rpB_len]; omega)) ⟨bor_byu (el := 5) (rpB_len _ _).symm (by simp [lk]), trivial⟩ (by rfl) ?_
  generalize resB (rpB 0 (300 + k)) = x5 at *
  simp
  clear r1 r2 r3 hM hT hV w1 w2 w3 w4 w5 e1 e2 hkk
  have hk5 : k = 0 ∨ k = 1 ∨ k = 2 ∨ k = 3 ∨ k = 4 := by omega
  rcases hk5 with rfl | rfl | rfl | rfl | rfl
  · simp at z1 z2 z3 z4 z5
    simp [z1, z2, z3, z4, z5, Tryd.results5]
  · simp at z1 z2 z3 z4 z5
    simp [z1, z2, z3, z4, z5, Tryd.results5]
  · simp at z1 z2 z3 z4 z5
    simp [z1, z2, z3, z4, z5, Tryd.results5]
  · simp at z1 z2 z3 z4 z5
    simp [z1, z2, z3, z4, z5, Tryd.results5]
  · simp at z1 z2 z3 z4 z5
    simp [z1, z2, z3, z4, z5, Tryd.results5]
theorem law5n {x : PC} (hx : intS x) : PureC Tryd.prog 5 [x] (.bool true) := by
  obtain ⟨n, rfl, _, _⟩ := hx
  exact law5 n
end Go.Av
