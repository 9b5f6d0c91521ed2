/- What is kept, with what a response says anew. -/
import Derived.Test.YtffoncjofjgojaaGreatDoorZl
set_option linter.all false
/-! part Z131 -/
namespace Go.Av
open Go.Proofs
set_option maxRecDepth 100000
theorem gwithout79 (nx : Nat) (fs : List Fd) (ns : List (List UInt8)) (hf : fs.length ≤ 1000000) (hf2 : ∀ f ∈ fs, f.1.length ≤ 1000000) (hl : ns.length ≤ 1000000) (hn : ∀ n ∈ ns, n.length ≤ 1000000) :
    ∃ Z : List Fd, GenC Tryz.prog 79 [.p (.sl (fs.map fdP)), .p (.sl (ns.map PC.str))] ⟨[], [], nx⟩ (.view nx 0 (withB ns fs).length 2 none) ⟨[(nx, rowF (withB ns fs ++ Z))], [], nx + 1⟩ := by
  obtain ⟨Z, hd⟩ := deletef119 nx (nx + 1) (by omega) 121 [.ref (.sl (ns.map PC.str))] (dropP ns) fs hf (fun f hx => drop121 ns f hl hn (hf2 f hx))
  change GenC _ _ _ _ (AV.view nx 0 (withB ns fs).length 2 none) ⟨[(nx, rowF (withB ns fs ++ Z))], [], nx + 1⟩ at hd
  refine ⟨Z, ?_⟩
  refine gen_of_aw (rs := [_]) [] [] [] mixed Tryz.func79 rfl (by kernel_rfl) (by kernel_rfl) (by simp [Tryz.ntmps79]) rfl ?_
  simp
  refine gcall_of0 (clone120 nx fs (by omega)) (by simp) trivial trivial rfl ?_
  simp
  refine gcall_of0 hd (by simp) (by simp [sub1]) trivial rfl ?_
  simp [Tryz.results79]
  exact ⟨[], by simp [rowF]⟩
def updL : List (List UInt8) := [[99, 111, 110, 116, 101, 110, 116, 45, 101, 110, 99, 111, 100, 105, 110, 103], [99, 111, 110, 116, 101, 110, 116, 45, 114, 97, 110, 103, 101], [99, 111, 110, 116, 101, 110, 116, 45, 116, 121, 112, 101], [101, 116, 97, 103]]
def moreF (rs : List Fd) : List Fd := withB updL (keptF rs)
def updF (ks rs : List Fd) : List Fd := withB ((moreF rs).map (·.1)) ks ++ moreF rs
def updM (k r : Msg) : Msg := { k with fs := updF k.fs r.fs }
set_option maxHeartbeats 2000000 in
theorem Update41 (k r : Msg) (hf : FdOk r.fs) (hs : (splitB (getB r.fs cnnN)).length ≤ 900000) (hb : r.body.length ≤ 1000000) (hkb : k.body.length ≤ 1000000) (hk1 : k.fs.length ≤ 100000) (hk2 : ∀ f ∈ k.fs, f.1.length ≤ 1000000) (hr1 : r.fs.length ≤ 100000) :
    PureC Tryz.prog 41 [msP k, msP r] (.agg false (msgL (updM k r))) := by
  have hK := Kept33 r hf hs hb
  have kl := kept_len r.fs
  have ks := kept_sub r.fs
  have hW := without79 (keptF r.fs) updL (by omega) (fun f h => hf.2.2 f (ks f h)) (by decide) (by decide)
  have ml := with_len updL (keptF r.fs)
  have msub := with_sub updL (keptF r.fs)
  change PureC _ _ _ (.sl ((moreF r.fs).map fdP)) at hW
  change (moreF r.fs).length ≤ _ at ml
  have hmn : ∀ n ∈ (moreF r.fs).map (·.1), n.length ≤ 1000000 := fun n h => by
    obtain ⟨f, hf1, rfl⟩ := List.mem_map.1 h
    exact hf.2.2 f (ks f (msub f hf1))
  obtain ⟨Z, hG⟩ := gwithout79 3 k.fs ((moreF r.fs).map (·.1)) (by omega) hk2 (by simp; omega) hmn
  have hC := clone80 k.body (by omega)
  have hlw := with_len ((moreF r.fs).map (·.1)) k.fs
  unfold updM updF
  generalize moreF r.fs = M at *
  generalize withB (M.map (·.1)) k.fs = W at *
  refine pure_of_gen (xs := [_, _]) (r := .agg false [.p (.str k.m), .p (.str k.t), .p (.int k.st), .p (.str k.r), .p (.int k.mi), .view 0 0 (W.length + M.length) 2 none, .p (.sl (bytesPC k.body))]) (tb' := ⟨[(0, rowF (W ++ M))], [], 1⟩) ?_ ?_
  · refine gen_of_aw (rs := [_]) [2] [] [] mixed Tryz.func41 rfl (by kernel_rfl) (by kernel_rfl) (by simp [Tryz.ntmps41]) rfl ?_
    simp
    refine pcall_of hK (by simp) ?_
    simp [keptM]
    refine pcall_of hW (by simp [updL]) ?_
    simp
    refine aw_loop (fun i : Nat => i ≤ M.length) (fun i => [(2, .obj 0 0), (4, .obj 1 0), (5, .p (.sl (M.map fdP))), (6, .own 2 ((M.take i).map fun f => PC.str f.1)), (14, .p (.sl (M.map fdP))), (15, .p (.int M.length)), (16, .p (.int i))])
      (fun _ => ⟨[(1, ⟨27, 7, [.p (.str []), .p (.str []), .p (.int 0), .p (.str []), .p (.int 0), .p .nil, .p .nil]⟩), (0, ⟨27, 7, (msgL k).map .p⟩)], [(2, 9, 1)], 3⟩) (fun i => M.length - i) 0 (by simp) _ (le_own 6 9 1 [] (.inr ⟨rfl, by simp⟩)) (leN_id (by simp)) ?_
    intro i hi
    by_cases c : i < M.length
    · have wi : IntKind.i64.wrap ((i : Int) + 1) = ((i + 1 : Nat) : Int) := by rw [wrap64_id (by omega) (by omega)]; rfl
      have hts : List.take (i + 1) (M.map fun f => PC.str f.1) = List.take i (M.map fun f => PC.str f.1) ++ [PC.str M[i].1] := by
        rw [List.take_succ_eq_append_getElem (by simpa using c)]; simp
      simp [c, wi]
      refine ⟨fun x h => ?_, by omega, by omega, i + 1, by omega, by omega, leN_of [(2, 4)] (by simp [hts])⟩
      obtain ⟨f, _, rfl⟩ := List.mem_map.1 (List.mem_of_mem_take h)
      rfl
    · obtain rfl : i = M.length := by omega
      simp
      refine gcall_of0 hG (by simp) (by simp [sub1]) trivial rfl ?_
      have hrow : List.take (W.length * 2) (rowF (W ++ Z)).xs ++ List.map AV.p (List.flatMap pcs (List.map fdP M)) = (cellsF (W ++ M)).map AV.p := by
        show List.take (W.length * 2) ((cellsF (W ++ Z)).map AV.p) ++ _ = _
        rw [← List.map_take, cellsF_take, List.take_left, pcs_fds, ← List.map_append, cellsF_app]
      simp [hrow]
      refine ⟨rfl, by simp [rowF]; omega, fun y a b _ e => by rw [← e]; rfl, fun y a b _ e => by rw [← e]; rfl, rfl, by omega, by omega, ?_⟩
      refine pcall_of hC (by simp) ?_
      simp [Tryz.results41]
      exact ⟨[(0, 4)], by simp [rowF]⟩
  · exact ⟨rfl, ⟨_, rfl, .inl rfl⟩, ⟨_, rfl, .inl rfl⟩, ⟨_, rfl, .inl rfl⟩, ⟨_, rfl, .inl rfl⟩, ⟨_, rfl, .inl rfl⟩, (by have := bor_row 0 (W ++ M) 2; rwa [List.length_append] at this), ⟨_, rfl, .inl rfl⟩, trivial⟩
end Go.Av

/-! part Z132 -/
namespace Go.Av
open Go.Proofs
set_option maxRecDepth 100000
end Go.Av

/-! part Z133 -/
namespace Go.Av
open Go.Proofs
end Go.Av
