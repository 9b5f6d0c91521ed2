/- Which fields are right; a key tells what requests have; VaryOne computes true. -/
import Derived.Test.YtpffiikopcpgfaaDoorDt
set_option linter.all false
/-! part Q101 -/
namespace Go.Av
open Go.Proofs

def fitB (f : Fd) : Bool := tkB f.1 && rvalB f.2
theorem fits86 (f : Fd) (h1 : f.1.length ≤ 1000000) (h2 : f.2.length ≤ 1000000) : PureC Tryd.prog 86 [fdP f] (.bool (fitB f)) := by
  refine pure_of_aw (ys := [_]) [] [] [] mixed Tryd.func86 rfl (by kernel_rfl) (by kernel_rfl) (by simp [Tryd.ntmps86]) rfl ?_
  obtain ⟨a, b⟩ := f
  simp only at h1 h2
  simp [fdP, fitB]
  refine pcall_of (rtoken31 tchar70 a (by omega)) (by simp) ?_
  cases h : tkB a with
  | false => simp [Tryd.results86]
  | true =>
    simp
    refine pcall_of (rvalue62 b (by omega)) (by simp) ?_
    simp [Tryd.results86]
def szF (fs : List Fd) : Nat := (fs.map fun f => f.1.length + f.2.length + 4).sum
theorem szF_snoc (fs : List Fd) (f : Fd) : szF (fs ++ [f]) = szF fs + (f.1.length + f.2.length + 4) := by simp [szF]
theorem szF_le {fs : List Fd} (h : ∀ f ∈ fs, f.1.length ≤ 300 ∧ f.2.length ≤ 500) : szF fs ≤ fs.length * 804 := by
  induction fs with
  | nil => simp [szF]
  | cons f fs ih =>
    have := ih fun g hg => h g (by simp [hg])
    have := h f (by simp)
    have e : szF (f :: fs) = (f.1.length + f.2.length + 4) + szF fs := by simp [szF]
    rw [e, List.length_cons]; omega
set_option maxHeartbeats 2000000 in
set_option maxRecDepth 100000 in
theorem fault48 (fs : List Fd) (hs : shortB fs = true) : PureC Tryd.prog 48 [.sl (fs.map fdP)] (.int (if fs.all fitB = true then 0 else 10)) := by
  obtain ⟨f1, f2, f3⟩ := short_ok hs
  refine pure_of_aw (ys := [_]) [] [] [] mixed Tryd.func48 rfl (by kernel_rfl) (by kernel_rfl) (by simp [Tryd.ntmps48]) rfl ?_
  obtain ⟨R, hR⟩ : ∃ R : Int, R = if fs.all fitB = true then 0 else 10 := ⟨_, rfl⟩
  rw [← hR]
  simp
  refine aw_loop0 (fun k : Nat => k ≤ fs.length ∧ ∀ f ∈ fs.take k, fitB f = true) (fun k => [(0, .p (.sl (fs.map fdP))), (3, .p (.int 2)), (4, .p (.int k))]) (fun k => fs.length - k) 0 (by simp) (leN_id (by simp)) ?_
  rintro k ⟨h1, h2⟩
  by_cases ck : k < fs.length
  · have hf := f3 fs[k] (List.getElem_mem ck)
    simp [ck]
    refine pcall_of (fits86 fs[k] (by omega) (by omega)) (by simp) ?_
    cases hx : fitB fs[k] with
    | false =>
      have e : R = 10 := by
        rw [hR, if_neg]
        intro hc
        have := List.all_eq_true.1 hc fs[k] (List.getElem_mem ck)
        rw [hx] at this; cases this
      subst e
      simp [Tryd.results48]
    | true =>
      simp
      refine ⟨k + 1, ⟨by omega, ?_⟩, by omega, leN_id ?_⟩
      · intro a b hm
        rw [List.take_succ_eq_append_getElem ck] at hm
        rcases List.mem_append.1 hm with hm | hm
        · exact h2 _ hm
        · simp at hm; rw [hm]; exact hx
      · simp [wrap64_id (n := (k : Int) + 1) (by omega) (by omega)]
  obtain rfl : k = fs.length := by omega
  rw [List.take_length] at h2
  have e : R = 0 := by rw [hR, if_pos (List.all_eq_true.2 h2)]
  subst e
  clear h1
  have d1 : ¬ (128 : Int) < (fs.length : Int) := by omega
  simp [d1, show ¬ 128 < fs.length by omega]
  refine aw_loop0 (fun k : Nat => k ≤ fs.length) (fun k => [(0, .p (.sl (fs.map fdP))), (3, .p (.int ((2 + szF (fs.take k) : Nat) : Int))), (5, .p (.int k))]) (fun k => fs.length - k) 0 (by simp) (leN_id (by simp [szF])) ?_
  intro k h1
  by_cases ck : k < fs.length
  case neg => simp [ck, Tryd.results48]
  have hf := f3 fs[k] (List.getElem_mem ck)
  have hsn : szF (fs.take (k + 1)) = szF (fs.take k) + (fs[k].1.length + fs[k].2.length + 4) := by
    rw [List.take_succ_eq_append_getElem ck, szF_snoc]
  have hle : szF (fs.take k) ≤ 30 * 804 := by
    refine Nat.le_trans (szF_le fun f hm => f3 f (List.mem_of_mem_take hm)) ?_
    rw [List.length_take]
    exact Nat.mul_le_mul_right _ (by omega)
  have w1 : IntKind.i64.wrap (2 + (szF (fs.take k) : Int) + (fs[k].1.length : Int)) = 2 + (szF (fs.take k) : Int) + (fs[k].1.length : Int) := wrap64_id (by omega) (by omega)
  have w2 : IntKind.i64.wrap (2 + (szF (fs.take k) : Int) + (fs[k].1.length : Int) + (fs[k].2.length : Int)) = 2 + (szF (fs.take k) : Int) + (fs[k].1.length : Int) + (fs[k].2.length : Int) := wrap64_id (by omega) (by omega)
  have w3 : IntKind.i64.wrap (2 + (szF (fs.take k) : Int) + (fs[k].1.length : Int) + (fs[k].2.length : Int) + 4) = 2 + (szF (fs.take k) : Int) + (fs[k].1.length : Int) + (fs[k].2.length : Int) + 4 := wrap64_id (by omega) (by omega)
  have d2 : ¬ (65536 : Int) < 2 + (szF (fs.take k) : Int) + (fs[k].1.length : Int) + (fs[k].2.length : Int) + 4 := by omega
  simp [ck, w1, w2, w3, d2]
  refine ⟨k + 1, by omega, by omega, leN_id ?_⟩
  simp [wrap64_id (n := (k : Int) + 1) (by omega) (by omega), hsn]
  omega
end Go.Av

/-! part Q102 -/
namespace Go.Av
open Go.Proofs

theorem trimB_mem {l : List UInt8} {c : UInt8} (h : c ∈ trimB l) : c ∈ l := by
  unfold trimB trimL at h
  have h1 := (List.dropWhile_sublist blO).mem h
  unfold trimR at h1
  rw [List.mem_reverse] at h1
  have h2 := (List.dropWhile_sublist blO).mem h1
  rwa [List.mem_reverse] at h2
theorem spl1_mem {l p : List UInt8} (h : p ∈ spl1 l) : ∀ c ∈ p, c ∈ l := by
  have : ∀ (n : Nat) (l : List UInt8), l.length ≤ n → ∀ p ∈ spl1 l, ∀ c ∈ p, c ∈ l := by
    intro n
    induction n with
    | zero => intro l h p hp; obtain rfl : l = [] := List.length_eq_zero_iff.1 (by omega); simp [spl1_nil] at hp
    | succ n ih =>
      intro l h p hp c hc
      by_cases e : l = []
      · subst e; simp [spl1_nil] at hp
      · have h0 : 0 < l.length := List.length_pos_iff.2 e
        rw [spl1_eq e] at hp
        rcases List.mem_append.1 hp with hp | hp
        · unfold pieceB at hp
          split at hp
          · cases hp
          · simp at hp; subst hp
            exact List.mem_of_mem_take (trimB_mem hc)
        · exact List.mem_of_mem_drop (ih _ (by simp; omega) p hp c hc)
  exact this _ l (Nat.le_refl _) p h
theorem join_mem : ∀ {L : List (List UInt8)} {d c : UInt8}, c ∈ Lib.join L [d] → c = d ∨ ∃ p ∈ L, c ∈ p
  | [], d, c, h => by simp [Lib.join, List.intercalate] at h
  | [p], d, c, h => by simp [Lib.join, List.intercalate] at h; exact .inr ⟨p, by simp, h⟩
  | p :: q :: L, d, c, h => by
    rw [join_cons] at h
    rcases List.mem_append.1 h with h | h
    · exact .inr ⟨p, by simp, h⟩
    · rcases List.mem_cons.1 h with h | h
      · exact .inl h
      · rcases join_mem h with h | ⟨x, hx, hc⟩
        · exact .inl h
        · exact .inr ⟨x, by simp [hx], hc⟩
theorem part_noLF {n : List UInt8} {fs : List Fd} (hf : fs.all fitB = true) : noLF (partB n fs).1 := by
  intro c hc e
  subst e
  unfold partB at hc
  simp only at hc
  rcases join_mem hc with h | ⟨p, hp, h⟩
  · exact absurd h (by decide)
  · unfold splitB at hp
    obtain ⟨v, hv, hp⟩ := List.mem_flatMap.1 hp
    have hcv := spl1_mem hp _ h
    unfold getB at hv
    obtain ⟨f, hf1, rfl⟩ := List.mem_map.1 hv
    have := List.all_eq_true.1 hf f (List.mem_filter.1 hf1).1
    unfold fitB at this
    simp only [Bool.and_eq_true] at this
    exact val_noLF this.2 _ hcv rfl
theorem app_lf : ∀ {s t x y : List UInt8}, noLF s → noLF t → s ++ 10 :: x = t ++ 10 :: y → s = t ∧ x = y
  | [], [], x, y, _, _, h => by simpa using h
  | [], b :: t, x, y, _, h2, h => by
    simp at h
    exact absurd h.1.symm (h2 b (by simp))
  | a :: s, [], x, y, h1, _, h => by
    simp at h
    exact absurd h.1 (h1 a (by simp))
  | a :: s, b :: t, x, y, h1, h2, h => by
    simp only [List.cons_append, List.cons.injEq] at h
    obtain ⟨rfl, h⟩ := h
    obtain ⟨e1, e2⟩ := app_lf (fun c hc => h1 c (by simp [hc])) (fun c hc => h2 c (by simp [hc])) h
    exact ⟨by rw [e1], e2⟩
theorem key_inj {a b : List Fd} (ha : a.all fitB = true) (hb : b.all fitB = true) : ∀ (ns : List (List UInt8)), (∀ n ∈ ns, tkB n = true) → (keyB ns a = keyB ns b ↔ ∀ n ∈ ns, partB n a = partB n b)
  | [], _ => by simp [keyB]
  | n :: ns, h => by
    have ih := key_inj ha hb ns fun m hm => h m (by simp [hm])
    have hl : noLF (lowB n) := tk_noLF (by rw [tkB_low]; exact h n (by simp))
    have e : ∀ fs, keyB (n :: ns) fs = keyP fs n ++ keyB ns fs := fun _ => rfl
    have e2 : ∀ fs, keyP fs n ++ keyB ns fs = (lowB n ++ (if (partB n fs).2 = true then 58 :: (partB n fs).1 else [])) ++ 10 :: keyB ns fs := fun fs => by simp [keyP]
    have nl : ∀ {fs : List Fd}, fs.all fitB = true → noLF (lowB n ++ (if (partB n fs).2 = true then 58 :: (partB n fs).1 else [])) := fun hf => by
      refine noLF_app hl ?_
      split
      · exact noLF_cons (by decide) (part_noLF hf)
      · intro c hc; cases hc
    have pe : (lowB n ++ (if (partB n a).2 = true then 58 :: (partB n a).1 else [])) = (lowB n ++ (if (partB n b).2 = true then 58 :: (partB n b).1 else [])) ↔ partB n a = partB n b := by
      have none : ∀ fs : List Fd, (partB n fs).2 = false → (partB n fs).1 = [] := fun fs hx => by
        unfold partB at hx ⊢
        simp only [Bool.not_eq_false'] at hx ⊢
        rw [List.isEmpty_iff.1 hx]; rfl
      constructor
      · intro hx
        rw [List.append_cancel_left_eq] at hx
        cases p : (partB n a).2 with
        | false =>
          cases q : (partB n b).2 with
          | false => exact Prod.ext (by rw [none a p, none b q]) (by rw [p, q])
          | true => rw [p, q] at hx; simp at hx
        | true =>
          cases q : (partB n b).2 with
          | false => rw [p, q] at hx; simp at hx
          | true =>
            rw [p, q] at hx
            simp only [if_true, List.cons.injEq, true_and] at hx
            exact Prod.ext hx (by rw [p, q])
      · intro hx; rw [hx]
    rw [e, e, e2, e2]
    constructor
    · intro hx
      obtain ⟨h1, h2⟩ := app_lf (nl ha) (nl hb) hx
      intro m hm
      rcases List.mem_cons.1 hm with rfl | hm
      · exact pe.1 h1
      · exact ih.1 h2 m hm
    · intro hx
      rw [pe.2 (hx n (by simp)), ih.2 fun m hm => hx m (by simp [hm])]
theorem match_key {a b : List Fd} (ha : a.all fitB = true) (hb : b.all fitB = true) (ns : List (List UInt8)) (h : ∀ n ∈ ns, tkB n = true) : matchB ns a b = (keyB ns a == keyB ns b) := by
  rw [Bool.eq_iff_iff]
  unfold matchB
  rw [List.all_eq_true, beq_iff_eq, key_inj ha hb ns h]
  exact ⟨fun k n hn => by simpa using k n hn, fun k n hn => by simpa using k n hn⟩
theorem match_self (ns : List (List UInt8)) (a : List Fd) : matchB ns a a = true := by
  unfold matchB; rw [List.all_eq_true]; intro n _; simp
theorem match_comm (ns : List (List UInt8)) (a b : List Fd) : matchB ns a b = matchB ns b a := by
  unfold matchB
  congr 1; funext n
  rw [Bool.eq_iff_iff]; simp only [beq_iff_eq]; exact ⟨Eq.symm, Eq.symm⟩
theorem names_tk {vs l : List (List UInt8)} (h : rnamesN vs = some l) : ∀ n ∈ l, tkB n = true ∧ ∃ p ∈ splitB vs, n = lowB p := by
  unfold rnamesN namesF at h
  split at h
  · rename_i hc
    simp only [Option.map_some, Option.some.injEq] at h
    subst h
    intro n hn
    have := ((fold_ris ((splitB vs).map lowB) [] (by unfold Ris; exact .nil)).2 n).1 hn
    rcases this with h | h
    · obtain ⟨p, hp, rfl⟩ := List.mem_map.1 h
      have := List.all_eq_true.1 hc p hp
      unfold okP at this
      simp only [Bool.and_eq_true] at this
      exact ⟨by rw [tkB_low]; exact this.2, p, hp, rfl⟩
    · cases h
  · cases h
end Go.Av

/-! part Q103 -/
namespace Go.Av
open Go.Proofs

theorem names_ok {vs l : List (List UInt8)} (hf : fewB vs = true) (h : rnamesN vs = some l) : NmOk l := by
  obtain ⟨h1, h2, h3⟩ := few_tot hf
  refine ⟨Nat.le_trans (rnamesN_len h) (by omega), fun n hn => ?_⟩
  obtain ⟨_, p, hp, rfl⟩ := names_tk h n hn
  rw [lowB_len]
  exact piece_len (fun v hv => Nat.le_trans (h3 v hv) (by omega)) p hp
set_option maxHeartbeats 2000000 in
set_option maxRecDepth 100000 in
theorem law16 (vs : List (List UInt8)) (a b : List Fd) (hn : vs.length ≤ 9223372036854775807) (ha : a.length ≤ 9223372036854775807) (hb : b.length ≤ 9223372036854775807) : PureC Tryd.prog 16 [.sl (vs.map PC.str), .sl (a.map fdP), .sl (b.map fdP)] (.bool true) := by
  refine pure_of_aw (ys := [_]) [] [] [] mixed Tryd.func16 rfl (by kernel_rfl) (by kernel_rfl) (by simp [Tryd.ntmps16]) rfl ?_
  simp
  refine pcall_of awake38 rfl ?_
  simp
  refine pcall_of (few39 vs hn) (by simp) ?_
  cases hf : fewB vs with
  | false =>
    simp
    refine pcall_of awake38 rfl ?_
    simp [Tryd.results16]
  | true =>
  simp
  refine pcall_of (short43 a ha) (by simp) ?_
  cases hsa : shortB a with
  | false =>
    simp
    refine pcall_of awake38 rfl ?_
    simp [Tryd.results16]
  | true =>
  simp
  refine pcall_of (short43 b hb) (by simp) ?_
  cases hsb : shortB b with
  | false =>
    simp
    refine pcall_of awake38 rfl ?_
    simp [Tryd.results16]
  | true =>
  have fa := fault48 a hsa
  have fb := fault48 b hsb
  have oa := short_fd hsa
  have ob := short_fd hsb
  obtain ⟨f1, f2, f3⟩ := few_tot hf
  have hN := names40 vs (by omega) (by omega) (fun v hv => Nat.le_trans (f3 v hv) (by omega))
  rw [vary_names] at hN
  simp
  refine pcall_of fa (by simp) ?_
  cases xa : a.all fitB with
  | false =>
    simp
    refine pcall_of awake38 rfl ?_
    simp [Tryd.results16]
  | true =>
  simp
  refine pcall_of fb (by simp) ?_
  cases xb : b.all fitB with
  | false =>
    simp
    refine pcall_of awake38 rfl ?_
    simp [Tryd.results16]
  | true =>
  simp
  refine pcall_of hN (by simp) ?_
  cases hR : rnamesN vs with
  | none => simp [Tryd.results16]
  | some l =>
    have no := names_ok hf hR
    have m1 := match46 l a b oa ob no
    have m2 := match46 l a a oa oa no
    have m3 := match46 l b a ob oa no
    have k1 := key44 l a no oa
    have k2 := key44 l b no ob
    rw [match_self] at m2
    rw [match_comm l b a] at m3
    rw [match_key xa xb l (fun n hn => (names_tk hR n hn).1)] at m1 m3
    generalize keyB l a = K1 at *
    generalize keyB l b = K2 at *
    generalize hE : (K1 == K2) = E at *
    simp
    refine pcall_of m1 (by simp) ?_
    simp
    refine pcall_of k1 (by simp) ?_
    simp
    refine pcall_of k2 (by simp) ?_
    have ee : (E == E) = true := by simp
    simp [hE, ee]
    refine pcall_of m2 (by simp) ?_
    simp
    refine pcall_of m1 (by simp) ?_
    simp
    refine pcall_of m3 (by simp) ?_
    simp [ee, Tryd.results16]
theorem law16n {x y z : PC} (hx : strsS x) (hy : fldsS y) (hz : fldsS z) : PureC Tryd.prog 16 [x, y, z] (.bool true) := by
  obtain ⟨ns, rfl, h1⟩ := hx
  obtain ⟨a, rfl, h2⟩ := hy
  obtain ⟨b, rfl, h3⟩ := hz
  exact law16 ns a b h1 h2 h3
end Go.Av
