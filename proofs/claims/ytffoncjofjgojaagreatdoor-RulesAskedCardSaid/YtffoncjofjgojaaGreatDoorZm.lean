/- What is kept, with what a response says anew; RulesTwice computes true. -/
import Derived.Test.YtffoncjofjgojaaGreatDoorZl
set_option linter.all false
/-! part Z131 -/
namespace Go.Av
open Go.Proofs
set_option maxRecDepth 100000
theorem gwithout79 (nx : Nat) (fs : List Fd) (ns : List (List UInt8)) (hf : fs.length ≤ 1000000) (hf2 : ∀ f ∈ fs, f.1.length ≤ 1000000) (hl : ns.length ≤ 1000000) (hn : ∀ n ∈ ns, n.length ≤ 1000000) :
    ∃ Z : List Fd, GenC Tryz.prog 79 [.p (.sl (fs.map fdP)), .p (.sl (ns.map PC.str))] ⟨[], [], nx⟩ (.view nx 0 (withB ns fs).length 2 none) ⟨[(nx, rowF (withB ns fs ++ Z))], [], nx + 1⟩ := by
  obtain ⟨Z, hd⟩ := deletef119 nx (nx + 1) (by omega) 121 [.ref (.sl (ns.map PC.str))] (dropP ns) fs hf (fun f hx => drop121 ns f hl hn (hf2 f hx))
  change GenC _ _ _ _ (AV.view nx 0 (withB ns fs).length 2 none) ⟨[(nx, rowF (withB ns fs ++ Z))], [], nx + 1⟩ at hd
  refine ⟨Z, ?_⟩
  refine gen_of_aw (rs := [_]) [] [] [] mixed Tryz.func79 rfl (by kernel_rfl) (by kernel_rfl) (by simp [Tryz.ntmps79]) rfl ?_
  simp
  refine gcall_of0 (clone120 nx fs (by omega)) (by simp) trivial trivial rfl ?_
  simp
  refine gcall_of0 hd (by simp) (by simp [sub1]) trivial rfl ?_
  simp [Tryz.results79]
  exact ⟨[], by simp [rowF]⟩
def updL : List (List UInt8) := [[99, 111, 110, 116, 101, 110, 116, 45, 101, 110, 99, 111, 100, 105, 110, 103], [99, 111, 110, 116, 101, 110, 116, 45, 114, 97, 110, 103, 101], [99, 111, 110, 116, 101, 110, 116, 45, 116, 121, 112, 101], [101, 116, 97, 103]]
def moreF (rs : List Fd) : List Fd := withB updL (keptF rs)
def updF (ks rs : List Fd) : List Fd := withB ((moreF rs).map (·.1)) ks ++ moreF rs
def updM (k r : Msg) : Msg := { k with fs := updF k.fs r.fs }
set_option maxHeartbeats 2000000 in
theorem Update41 (k r : Msg) (hf : FdOk r.fs) (hs : (splitB (getB r.fs cnnN)).length ≤ 900000) (hb : r.body.length ≤ 1000000) (hkb : k.body.length ≤ 1000000) (hk1 : k.fs.length ≤ 100000) (hk2 : ∀ f ∈ k.fs, f.1.length ≤ 1000000) (hr1 : r.fs.length ≤ 100000) :
    PureC Tryz.prog 41 [msP k, msP r] (.agg false (msgL (updM k r))) := by
  have hK := Kept33 r hf hs hb
  have kl := kept_len r.fs
  have ks := kept_sub r.fs
  have hW := without79 (keptF r.fs) updL (by omega) (fun f h => hf.2.2 f (ks f h)) (by decide) (by decide)
  have ml := with_len updL (keptF r.fs)
  have msub := with_sub updL (keptF r.fs)
  change PureC _ _ _ (.sl ((moreF r.fs).map fdP)) at hW
  change (moreF r.fs).length ≤ _ at ml
  have hmn : ∀ n ∈ (moreF r.fs).map (·.1), n.length ≤ 1000000 := fun n h => by
    obtain ⟨f, hf1, rfl⟩ := List.mem_map.1 h
    exact hf.2.2 f (ks f (msub f hf1))
  obtain ⟨Z, hG⟩ := gwithout79 3 k.fs ((moreF r.fs).map (·.1)) (by omega) hk2 (by simp; omega) hmn
  have hC := clone80 k.body (by omega)
  have hlw := with_len ((moreF r.fs).map (·.1)) k.fs
  unfold updM updF
  generalize moreF r.fs = M at *
  generalize withB (M.map (·.1)) k.fs = W at *
  refine pure_of_gen (xs := [_, _]) (r := .agg false [.p (.str k.m), .p (.str k.t), .p (.int k.st), .p (.str k.r), .p (.int k.mi), .view 0 0 (W.length + M.length) 2 none, .p (.sl (bytesPC k.body))]) (tb' := ⟨[(0, rowF (W ++ M))], [], 1⟩) ?_ ?_
  · refine gen_of_aw (rs := [_]) [2] [] [] mixed Tryz.func41 rfl (by kernel_rfl) (by kernel_rfl) (by simp [Tryz.ntmps41]) rfl ?_
    simp
    refine pcall_of hK (by simp) ?_
    simp [keptM]
    refine pcall_of hW (by simp [updL]) ?_
    simp
    refine aw_loop (fun i : Nat => i ≤ M.length) (fun i => [(2, .obj 0 0), (4, .obj 1 0), (5, .p (.sl (M.map fdP))), (6, .own 2 ((M.take i).map fun f => PC.str f.1)), (14, .p (.sl (M.map fdP))), (15, .p (.int M.length)), (16, .p (.int i))])
      (fun _ => ⟨[(1, ⟨27, 7, [.p (.str []), .p (.str []), .p (.int 0), .p (.str []), .p (.int 0), .p .nil, .p .nil]⟩), (0, ⟨27, 7, (msgL k).map .p⟩)], [(2, 9, 1)], 3⟩) (fun i => M.length - i) 0 (by simp) _ (le_own 6 9 1 [] (.inr ⟨rfl, by simp⟩)) (leN_id (by simp)) ?_
    intro i hi
    by_cases c : i < M.length
    · have wi : IntKind.i64.wrap ((i : Int) + 1) = ((i + 1 : Nat) : Int) := by rw [wrap64_id (by omega) (by omega)]; rfl
      have hts : List.take (i + 1) (M.map fun f => PC.str f.1) = List.take i (M.map fun f => PC.str f.1) ++ [PC.str M[i].1] := by
        rw [List.take_succ_eq_append_getElem (by simpa using c)]; simp
      simp [c, wi]
      refine ⟨fun x h => ?_, by omega, by omega, i + 1, by omega, by omega, leN_of [(2, 4)] (by simp [hts])⟩
      obtain ⟨f, _, rfl⟩ := List.mem_map.1 (List.mem_of_mem_take h)
      rfl
    · obtain rfl : i = M.length := by omega
      simp
      refine gcall_of0 hG (by simp) (by simp [sub1]) trivial rfl ?_
      have hrow : List.take (W.length * 2) (rowF (W ++ Z)).xs ++ List.map AV.p (List.flatMap pcs (List.map fdP M)) = (cellsF (W ++ M)).map AV.p := by
        show List.take (W.length * 2) ((cellsF (W ++ Z)).map AV.p) ++ _ = _
        rw [← List.map_take, cellsF_take, List.take_left, pcs_fds, ← List.map_append, cellsF_app]
      simp [hrow]
      refine ⟨rfl, by simp [rowF]; omega, fun y a b _ e => by rw [← e]; rfl, fun y a b _ e => by rw [← e]; rfl, rfl, by omega, by omega, ?_⟩
      refine pcall_of hC (by simp) ?_
      simp [Tryz.results41]
      exact ⟨[(0, 4)], by simp [rowF]⟩
  · exact ⟨rfl, ⟨_, rfl, .inl rfl⟩, ⟨_, rfl, .inl rfl⟩, ⟨_, rfl, .inl rfl⟩, ⟨_, rfl, .inl rfl⟩, ⟨_, rfl, .inl rfl⟩, (by have := bor_row 0 (W ++ M) 2; rwa [List.length_append] at this), ⟨_, rfl, .inl rfl⟩, trivial⟩
end Go.Av

/-! part Z132 -/
namespace Go.Av
open Go.Proofs
set_option maxRecDepth 100000
theorem with_app (ns : List (List UInt8)) (A B : List Fd) : withB ns (A ++ B) = withB ns A ++ withB ns B := by simp [withB]
theorem with_twice (ns : List (List UInt8)) (A : List Fd) : withB ns (withB ns A) = withB ns A := by simp [withB]
theorem with_own (M : List Fd) : withB (M.map (·.1)) M = [] := by
  unfold withB
  rw [List.filter_eq_nil_iff]
  intro f hf
  have : dropP (M.map (·.1)) f = true := List.any_eq_true.2 ⟨f.1, List.mem_map.2 ⟨f, hf, rfl⟩, by simp [isB]⟩
  simp [this]
theorem upd_twice (ks rs : List Fd) : updF (updF ks rs) rs = updF ks rs := by
  unfold updF
  rw [with_app, with_twice, with_own, List.append_nil]
theorem get_app (A B : List Fd) (n : List UInt8) : getB (A ++ B) n = getB A n ++ getB B n := by simp [getB]
theorem more_get {rs : List Fd} {n : List UInt8} (h : n ∈ namesP rs ∨ n = clnN) : getB (moreF rs) n = [] := get_sub (with_sub _ _) (kept_get h)
theorem upd_has {ks rs : List Fd} {n : List UInt8} (h1 : n ∈ hopL ∨ n = clnN) : hasN (updF (keptF ks) rs) n = false := by
  have h2 : ∀ fs : List Fd, n ∈ namesP fs ∨ n = clnN := fun fs => h1.imp (fun h => List.mem_append_left _ h) id
  have e1 : getB (withB ((moreF rs).map (·.1)) (keptF ks)) n = [] := get_sub (with_sub _ _) (kept_get (h2 ks))
  have e2 := more_get (h2 rs)
  simp [hasN, updF, get_app, e1, e2]
theorem more_sub (rs : List Fd) : ∀ f ∈ moreF rs, f ∈ rs := fun f h => kept_sub _ f (with_sub _ _ f h)
theorem more_len (rs : List Fd) : (moreF rs).length ≤ rs.length := Nat.le_trans (with_len _ _) (kept_len _)
theorem upd_len (ks rs : List Fd) : (updF ks rs).length ≤ ks.length + rs.length := by
  have h1 := with_len ((moreF rs).map (·.1)) ks
  have h2 := more_len rs
  unfold updF; rw [List.length_append]; omega
theorem upd_sub (ks rs : List Fd) : ∀ f ∈ updF ks rs, f ∈ ks ∨ f ∈ rs := fun f h => by
  rcases List.mem_append.1 h with h | h
  · exact .inl (with_sub _ _ f h)
  · exact .inr (more_sub _ f h)
set_option maxHeartbeats 4000000 in
theorem law10 (k r : Msg) (hk : lenOk k) (hr : lenOk r) : PureC Tryz.prog 10 [msP k, msP r] (.bool true) := by
  have hsh := short22 [k, r] (by simp) (by simp [hk, hr])
  simp only [List.map_cons, List.map_nil, List.all_cons, List.all_nil, Bool.and_true] at hsh
  refine pure_of_aw (ys := [_]) [] [] [] mixed Tryz.func10 rfl (by kernel_rfl) (by kernel_rfl) (by simp [Tryz.ntmps10]) rfl ?_
  simp
  refine pcall_of awake21 (by simp) ?_
  simp
  refine pcall_of hsh (by simp) ?_
  cases hb : (shrM k && shrM r) with
  | false =>
    simp
    refine pcall_of awake21 (by simp) ?_
    simp [Tryz.results10]
  | true =>
  obtain ⟨b1, b2⟩ := Bool.and_eq_true_iff.1 hb
  obtain ⟨k1, k2⟩ := shr_ok b1
  obtain ⟨r1, r2⟩ := shr_ok b2
  have k3 := shr_b b1
  have r3 := shr_b b2
  have hfk := fd_ok2 (by omega) k2
  have hfr := fd_ok2 (by omega) r2
  have hsk := split_small (by omega) k2 cnnN
  have hsr := split_small (by omega) r2 cnnN
  have hK := Kept33 k hfk hsk (by omega)
  have kl := kept_len k.fs
  have ks2 : ∀ f ∈ keptF k.fs, f.1.length ≤ 300 ∧ f.2.length ≤ 500 := fun f h => k2 f (kept_sub _ f h)
  have ul := upd_len (keptF k.fs) r.fs
  have us : ∀ f ∈ updF (keptF k.fs) r.fs, f.1.length ≤ 300 ∧ f.2.length ≤ 500 := fun f h => (upd_sub _ _ f h).elim (ks2 f) (r2 f)
  have hU1 := Update41 (keptM k) r hfr hsr (by omega) (by simpa [keptM] using (by omega : k.body.length ≤ 1000000)) (by simpa [keptM] using (by omega : (keptF k.fs).length ≤ 100000)) (fun f h => by have := (ks2 f h).1; omega) (by omega)
  have hU2 := Update41 (updM (keptM k) r) r hfr hsr (by omega) (by simpa [keptM, updM] using (by omega : k.body.length ≤ 1000000)) (by simpa [keptM, updM] using (by omega : (updF (keptF k.fs) r.fs).length ≤ 100000)) (fun f h => by have := (us f h).1; omega) (by omega)
  have htw : updM (updM (keptM k) r) r = updM (keptM k) r := by simp [updM, upd_twice]
  rw [htw] at hU2
  have hS := same35 (updF (keptF k.fs) r.fs) (updF (keptF k.fs) r.fs) (by omega) (by omega)
  simp only [decide_true] at hS
  have hfu : FdOk (updM (keptM k) r).fs := fd_ok2 (by simpa [updM, keptM] using (by omega : (updF (keptF k.fs) r.fs).length ≤ 100)) us
  have c1 := has40 (updM (keptM k) r) tenN hfu (by decide)
  rw [show hasN (updM (keptM k) r).fs tenN = false from upd_has (.inl (by simp [hopL]))] at c1
  have c2 := has40 (updM (keptM k) r) clnN hfu (by decide)
  rw [show hasN (updM (keptM k) r).fs clnN = false from upd_has (.inr rfl)] at c2
  have c3 := has40 (updM (keptM k) r) cnnN hfu (by decide)
  rw [show hasN (updM (keptM k) r).fs cnnN = false from upd_has (.inl (by simp [hopL]))] at c3
  simp only [updM, keptM] at hU1 hU2 c1 c2 c3
  simp
  refine pcall_of hK (by simp) ?_
  simp [keptM]
  refine pcall_of hU1 (by simp) ?_
  simp
  refine pcall_of hU2 (by simp) ?_
  simp
  refine pcall_of hS (by simp) ?_
  simp
  refine pcall_of c1 (by simp [tenN]) ?_
  simp
  refine pcall_of c2 (by simp [clnN]) ?_
  simp
  refine pcall_of c3 (by simp [cnnN]) ?_
  simp [Tryz.results10]
end Go.Av

/-! part Z133 -/
namespace Go.Av
open Go.Proofs
theorem law10n {x y : PC} (hx : msgS x) (hy : msgS y) : PureC Tryz.prog 10 [x, y] (.bool true) := by
  obtain ⟨k, rfl, h1⟩ := hx
  obtain ⟨r, rfl, h2⟩ := hy
  exact law10 k r ⟨h1.fs, h1.b⟩ ⟨h2.fs, h2.b⟩
end Go.Av
