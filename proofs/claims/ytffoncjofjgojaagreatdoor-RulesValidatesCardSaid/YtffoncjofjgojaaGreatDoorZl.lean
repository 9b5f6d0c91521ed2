/- Fields without those of some names, by slices.Clone and slices.DeleteFunc; what is kept of a response. -/
import Derived.Test.YtffoncjofjgojaaGreatDoorZk
set_option linter.all false
/-! part Z126 -/
namespace Go.Av
open Go.Proofs
set_option maxRecDepth 100000
def cellsF (L : List Fd) : List PC := L.flatMap fun f => [.str f.1, .str f.2]
@[simp] theorem cellsF_nil : cellsF [] = [] := rfl
theorem cellsF_cons (f : Fd) (L : List Fd) : cellsF (f :: L) = .str f.1 :: .str f.2 :: cellsF L := rfl
@[simp] theorem cellsF_len (L : List Fd) : (cellsF L).length = L.length * 2 := by
  induction L with
  | nil => rfl
  | cons f L ih => rw [cellsF_cons]; simp [ih]; omega
theorem cellsF_app (L M : List Fd) : cellsF (L ++ M) = cellsF L ++ cellsF M := by simp [cellsF]
theorem cellsF_drop (L : List Fd) (k : Nat) : (cellsF L).drop (k * 2) = cellsF (L.drop k) := by
  induction L generalizing k with
  | nil => simp
  | cons f L ih =>
    cases k with
    | zero => simp
    | succ k => rw [cellsF_cons, show (k + 1) * 2 = k * 2 + 2 by omega]; simpa using ih k
theorem cellsF_take (L : List Fd) (k : Nat) : (cellsF L).take (k * 2) = cellsF (L.take k) := by
  induction L generalizing k with
  | nil => simp
  | cons f L ih =>
    cases k with
    | zero => simp
    | succ k => rw [cellsF_cons, show (k + 1) * 2 = k * 2 + 2 by omega, List.take_succ_cons, List.take_succ_cons, ih, List.take_succ_cons, cellsF_cons]
def rowF (L : List Fd) : Ob := ⟨49, 2, (cellsF L).map .p⟩
@[simp] theorem pcs_fd (f : Fd) : pcs (fdP f) = [.str f.1, .str f.2] := rfl
@[simp] theorem pcCells_fd (f : Fd) : pcCells (fdP f) = [.p (.str f.1), .p (.str f.2)] := rfl
theorem pcs_fds (L : List Fd) : (L.map fdP).flatMap pcs = cellsF L := by
  induction L with
  | nil => rfl
  | cons f L ih => rw [List.map_cons, List.flatMap_cons, ih]; rfl
theorem pcCells_fds (L : List Fd) : (L.map fdP).flatMap pcCells = (cellsF L).map .p := by
  induction L with
  | nil => rfl
  | cons f L ih => rw [List.map_cons, List.flatMap_cons, ih]; rfl
theorem fd_width : ∀ L : List Fd, ∀ x ∈ L.map fdP, x.width = 2 := fun L x h => by obtain ⟨f, _, rfl⟩ := List.mem_map.1 h; rfl
theorem fd_tup : ∀ L : List Fd, ∀ x ∈ L.map fdP, noTup x = true := fun L x h => by obtain ⟨f, _, rfl⟩ := List.mem_map.1 h; rfl
theorem can_120 : CanCall Tryz.prog 120 := ⟨Tryz.f120, Tryz.func120, by kernel_rfl, by kernel_rfl⟩
set_option maxHeartbeats 400000 in
theorem clone120 (nx : Nat) (L : List Fd) (hb : L.length ≤ 1000000000) :
    GenC Tryz.prog 120 [.p (.sl (L.map fdP))] ⟨[], [], nx⟩ (.view nx 0 L.length 2 none) ⟨[(nx, rowF L)], [], nx + 1⟩ := by
  have hw := fd_width L
  have ht := fd_tup L
  have hc := pcs_fds L
  have hl : (L.map fdP).length = L.length := List.length_map _
  unfold rowF
  rw [← hc]
  revert hw ht hl
  generalize L.length = n at *
  generalize L.map fdP = xs at *
  intro hw ht hl
  subst hl
  refine gen_nil (pre := []) (post := []) can_120 ?_ ?_
  · rintro rfl
    refine gen_void (r := .p .nil) (tb' := ⟨[], [], nx⟩) (el := 49) (s := 2) ?_ trivial
    refine gen_of_aw (rs := [.p .nil]) [7] [] [] mixed Tryz.func120 rfl (by kernel_rfl) (by kernel_rfl) (by simp [Tryz.ntmps120]) rfl ?_
    simp [Tryz.results120]
    exact ⟨[], by simp⟩
  · refine gen_of_aw (rs := [_]) [7] [] [] mixed Tryz.func120 rfl (by kernel_rfl) (by kernel_rfl) (by simp [Tryz.ntmps120]) rfl ?_
    simp [Tryz.results120]
    refine ⟨hw, ht, by omega, by omega, [], ?_⟩
    simp
theorem drop122 (n : List UInt8) (f : Fd) (hf : f.1.length ≤ 1000000) (hn : n.length ≤ 1000000) : PureC Tryz.prog 122 [.str n, .ref (fdP f)] (.bool (isB n f)) := by
  refine pure_of_aw (ys := [_]) [] [] [] mixed Tryz.func122 rfl (by kernel_rfl) (by kernel_rfl) (by simp [Tryz.ntmps122]) rfl ?_
  simp
  refine pcall_of (is132 f n hf hn) (by simp) ?_
  simp [Tryz.results122]
def dropP (ns : List (List UInt8)) (f : Fd) : Bool := ns.any fun n => isB n f
theorem drop121 (ns : List (List UInt8)) (f : Fd) (hl : ns.length ≤ 1000000) (hn : ∀ n ∈ ns, n.length ≤ 1000000) (hf : f.1.length ≤ 1000000) : PureC Tryz.prog 121 [fdP f, .ref (.sl (ns.map PC.str))] (.bool (dropP ns f)) := by
  have h := anyf65 122 [.ref (fdP f)] (fun n => isB n f) ns hl (fun n hx => drop122 n f hf (hn n hx))
  refine pure_of_aw (ys := [_]) [] [] [] mixed Tryz.func121 rfl (by kernel_rfl) (by kernel_rfl) (by simp [Tryz.ntmps121]) rfl ?_
  simp
  refine pcall_of h (by simp) ?_
  simp [dropP, Tryz.results121]
theorem ixf160 (g : FuncId) (caps : List PC) (p : Fd → Bool) (l : List Fd) (hl : l.length ≤ 1000000) (hg : ∀ x ∈ l, PureC Tryz.prog g (fdP x :: caps) (.bool (p x))) : PureC Tryz.prog 160 [.sl (l.map fdP), .fn (.func g) caps] (.int (ixfB p l)) := by
  refine pure_of_aw (ys := [_]) [] [] [] mixed Tryz.func160 rfl (by kernel_rfl) (by kernel_rfl) (by simp [Tryz.ntmps160]) rfl ?_
  obtain ⟨R, hR⟩ : ∃ R, R = ixfB p l := ⟨_, rfl⟩
  rw [← hR]
  simp
  refine aw_loop0 (fun i : Nat => i ≤ l.length ∧ ∀ x ∈ l.take i, p x = false) (fun i => [(0, .p (.sl (l.map fdP))), (1, .p (.fn (.func g) caps)), (7, .p (.int l.length)), (8, .p (.int i))]) (fun i => l.length - i) 0 ⟨by simp, by simp⟩ (leN_id (by simp)) ?_
  rintro i ⟨g1, g2⟩
  have hf := ixf_from p l i g2 g1
  rw [← hR] at hf
  by_cases ci : i < l.length
  · have wi : IntKind.i64.wrap ((i : Int) + 1) = ((i + 1 : Nat) : Int) := by rw [wrap64_id (by omega) (by omega)]; rfl
    rw [List.drop_eq_getElem_cons ci] at hf
    simp only [ixfB] at hf
    simp [ci]
    refine pcall_of (hg l[i] (List.getElem_mem ci)) (by simp) ?_
    cases hp : p l[i] with
    | true =>
      simp [hp] at hf
      simp [hf, Tryz.results160]
    | false =>
      simp [wi]
      refine ⟨i + 1, ⟨by omega, fun a b hx => ?_⟩, by omega, leN_id (by simp)⟩
      rw [List.take_succ_eq_append_getElem ci, List.mem_append] at hx
      rcases hx with hx | hx
      · exact g2 _ hx
      · simp at hx; rw [hx]; exact hp
  · rw [List.drop_eq_nil_of_le (by omega)] at hf
    simp [ixfB] at hf
    simp [ci, hf, Tryz.results160]
theorem bor_row (id : Nat) (L : List Fd) (k : Nat) : borF [(id, rowF L)] (k + 1) (.view id 0 L.length 2 none) (.sl (L.map fdP)) :=
  ⟨rowF L, by simp [lk], by omega, by simp, by simp [rowF], by
    rw [pcCells_fds]
    show List.take (L.length * 2) (List.drop (0 * 2) ((cellsF L).map AV.p)) = _
    rw [Nat.zero_mul, List.drop_zero, List.take_of_length_le (by simp)], fd_width L, fd_tup L⟩
theorem ixf_ge {α : Type} (p : α → Bool) (l : List α) : -1 ≤ ixfB p l := by
  induction l with
  | nil => simp [ixfB]
  | cons a l ih => simp only [ixfB]; split <;> (try split) <;> omega
theorem ixf_neg {α : Type} (p : α → Bool) (l : List α) (h : ixfB p l < 0) : ∀ x ∈ l, p x = false := by
  have := ixf_any p l
  rw [decide_eq_false (by omega)] at this
  have h2 := List.any_eq_false.1 this.symm
  exact fun x hx => by simpa using h2 x hx
theorem ixf_pos {α : Type} (p : α → Bool) (l : List α) (h : 0 ≤ ixfB p l) : ∃ A b C, l = A ++ b :: C ∧ ixfB p l = A.length ∧ p b = true ∧ ∀ x ∈ A, p x = false := by
  induction l with
  | nil => simp [ixfB] at h
  | cons a l ih =>
    by_cases ha : p a = true
    · exact ⟨[], a, l, rfl, by simp [ixfB, ha], ha, by simp⟩
    · have ha' : p a = false := by simpa using ha
      by_cases hn : ixfB p l < 0
      · simp [ixfB, ha', hn] at h
      · obtain ⟨A, b, C, h1, h2, h3, h4⟩ := ih (by omega)
        refine ⟨a :: A, b, C, by rw [h1]; rfl, ?_, h3, fun x hx => ?_⟩
        · have : ¬ ((A.length : Int) < 0) := by omega
          simp [ixfB, ha', h2]
        · rcases List.mem_cons.1 hx with rfl | hx
          · exact ha'
          · exact h4 x hx
structure DSt where
  K : List Fd
  X : List Fd
  C : List Fd
theorem repC_fd (n : Nat) : repC n [PC.str [], PC.str []] = cellsF (List.replicate n ([], [])) := by
  induction n with
  | zero => rfl
  | succ n ih => rw [List.replicate_succ, cellsF_cons, ← ih]; rfl
theorem del_end (K X : List Fd) (n : Nat) (h : K.length + X.length = n) : List.take (K.length * 2) ((cellsF (K ++ X)).map AV.p) ++ ((repC (n - K.length) [PC.str [], PC.str []]).map AV.p ++ List.drop (K.length * 2 + (n - K.length) * 2) ((cellsF (K ++ X)).map AV.p)) = (cellsF (K ++ List.replicate (n - K.length) ([], []))).map AV.p := by
  rw [← List.map_take, cellsF_take, List.take_left, List.drop_of_length_le (by simp; omega), List.append_nil, repC_fd, ← List.map_append, cellsF_app]
theorem del_put (K X C : List Fd) (x c : Fd) : List.take (K.length * 2) ((cellsF (K ++ (x :: X ++ c :: C))).map AV.p) ++ AV.p (.str c.1) :: AV.p (.str c.2) :: List.drop (K.length * 2 + 2) ((cellsF (K ++ (x :: X ++ c :: C))).map AV.p) = (cellsF ((K ++ [c]) ++ ((X ++ [c]) ++ C))).map AV.p := by
  have h1 : K.length * 2 + 2 = (K.length + 1) * 2 := by omega
  have h2 : List.drop (K.length + 1) (K ++ (x :: X ++ c :: C)) = X ++ c :: C := by
    rw [show K ++ (x :: X ++ c :: C) = (K ++ [x]) ++ (X ++ c :: C) by simp]
    exact List.drop_left' (by simp)
  rw [← List.map_take, cellsF_take, List.take_left, h1, ← List.map_drop, cellsF_drop, h2]
  simp [cellsF_app, cellsF_cons]
set_option maxHeartbeats 2000000 in
theorem deletef119 (id nx : Nat) (hid : id < nx) (g : FuncId) (caps : List PC) (p : Fd → Bool) (L : List Fd) (hl : L.length ≤ 1000000) (hg : ∀ x ∈ L, PureC Tryz.prog g (fdP x :: caps) (.bool (p x))) :
    ∃ Z : List Fd, GenC Tryz.prog 119 [.view id 0 L.length 2 none, .p (.fn (.func g) caps)] ⟨[(id, rowF L)], [], nx⟩ (.view id 0 (L.filter fun x => !p x).length 2 none) ⟨[(id, rowF ((L.filter fun x => !p x) ++ Z))], [], nx⟩ := by
  have h0 := ixf160 g caps p L hl hg
  have hge := ixf_ge p L
  by_cases hn : ixfB p L < 0
  · have hm : ixfB p L = -1 := by omega
    have hf : L.filter (fun x => !p x) = L := List.filter_eq_self.2 fun x hx => by simp [ixf_neg p L hn x hx]
    rw [hm] at h0
    rw [hf]
    refine ⟨[], ?_⟩
    rw [List.append_nil]
    refine gen_of_aw (rs := [_]) [] [] [] mixed Tryz.func119 rfl (by kernel_rfl) (by kernel_rfl) (by simp [Tryz.ntmps119]) rfl ?_
    simp
    refine bcall_of0 h0 ⟨bor_row id L 3, ⟨_, rfl, .inl rfl⟩, trivial⟩ rfl ?_
    simp [Tryz.results119]
    exact ⟨[], by simp [rowF, hid]⟩
  obtain ⟨A, b, C, hL, hx, hb, hA⟩ := ixf_pos p L (by omega)
  rw [hx] at h0
  have hAf : A.filter (fun x => !p x) = A := List.filter_eq_self.2 fun x hx => by simp [hA x hx]
  have hfl : L.filter (fun x => !p x) = A ++ C.filter (fun x => !p x) := by rw [hL]; simp [hAf, hb]
  have hrow : rowF L = rowF (A ++ [b] ++ C) := by rw [hL]; simp
  have hlen : L.length = A.length + 1 + C.length := by rw [hL, List.length_append, List.length_cons]; omega
  have hgC : ∀ x ∈ C, PureC Tryz.prog g (fdP x :: caps) (.bool (p x)) := fun x hx => hg x (by rw [hL]; simp [hx])
  obtain ⟨F, hF⟩ : ∃ F, F = L.filter (fun x => !p x) := ⟨_, rfl⟩
  rw [← hF] at hfl ⊢
  refine ⟨List.replicate (L.length - F.length) ([], []), ?_⟩
  have wA : IntKind.i64.wrap ((A.length : Int) + 1) = (A.length : Int) + 1 := wrap64_id (by omega) (by omega)
  have eA : ((A.length : Int) == -1) = false := by rw [beq_eq_false_iff_ne]; omega
  refine gen_of_aw (rs := [_]) [] [] [] mixed Tryz.func119 rfl (by kernel_rfl) (by kernel_rfl) (by simp [Tryz.ntmps119]) rfl ?_
  simp
  refine bcall_of0 h0 ⟨bor_row id L 3, ⟨_, rfl, .inl rfl⟩, trivial⟩ rfl ?_
  simp [eA, wA]
  refine aw_loop (fun s : DSt => s.X ≠ [] ∧ s.K.length + s.X.length + s.C.length = L.length ∧ F = s.K ++ s.C.filter (fun x => !p x) ∧ (∀ x ∈ s.C, PureC Tryz.prog g (fdP x :: caps) (.bool (p x))))
    (fun s => [(0, .view id 0 L.length 2 none), (1, .p (.fn (.func g) caps)), (5, .p (.int s.K.length)), (6, .p (.int ((s.K.length + s.X.length : Nat) : Int)))])
    (fun s => ⟨[(id, rowF (s.K ++ s.X ++ s.C))], [], nx⟩) (fun s => s.C.length) ⟨A, [b], C⟩ ⟨by simp, by simp; omega, hfl, hgC⟩ _ (AS.le_refl _ _) (leN_of [] (by simp [hrow]; simp [rowF, hid])) ?_
  rintro ⟨K, X, C⟩ ⟨g1, g2, g3, g4⟩
  simp only at g1 g2 g3 g4
  cases C with
  | nil =>
    have hKX : K.length + X.length = L.length := by simpa using g2
    have hFK : F = K := by simpa using g3
    have e1 : ¬ ((K.length : Int) + (X.length : Int) < (L.length : Int)) := by omega
    have q1 : K.length ≤ L.length := by omega
    have q2 : K.length * 2 ≤ (K.length + X.length) * 2 := by omega
    simp [e1, rowF, q1, Tryz.results119]
    rw [del_end K X L.length hKX, hFK]
    exact ⟨q2, [], by simp [hid]⟩
  | cons c C =>
    have hKX : K.length + X.length + (C.length + 1) = L.length := by simpa using g2
    have e1 : (K.length : Int) + (X.length : Int) < (L.length : Int) := by omega
    have hload : (((cellsF (K ++ (X ++ c :: C))).map AV.p).drop ((K.length + X.length) * 2)).take 2 = [.p (.str c.1), .p (.str c.2)] := by
      rw [← List.map_drop, cellsF_drop, ← List.append_assoc, List.drop_left' (by simp), cellsF_cons]; simp only [List.map_cons, List.take_succ_cons, List.take_zero]
    have h2 : (K.length + X.length) * 2 + 2 ≤ (K.length + (X.length + (C.length + 1))) * 2 := by omega
    have p0 : (0 : Int) ≤ (K.length : Int) + (X.length : Int) := by omega
    have t1 : ((K.length : Int) + (X.length : Int)).toNat = K.length + X.length := by omega
    have h3 : (K.length + X.length) < L.length := by omega
    have hcp := g4 c (by simp)
    have hne : ¬ id = nx := by omega
    have hne2 : ¬ nx = id := by omega
    have w1 : IntKind.i64.wrap ((K.length : Int) + (X.length : Int) + 1) = (K.length : Int) + (X.length : Int) + 1 := wrap64_id (by omega) (by omega)
    have w2 : IntKind.i64.wrap ((K.length : Int) + 1) = (K.length : Int) + 1 := wrap64_id (by omega) (by omega)
    simp [e1, rowF, hload, t1, h2, h3, p0, hne, hne2]
    refine pcall_of hcp (by simp) ?_
    cases hp : p c with
    | true =>
      simp [hne, hne2, w1]
      refine ⟨⟨K, X ++ [c], C⟩, ⟨by simp, by simp; omega, by rw [g3]; simp [hp], fun a b h => g4 _ (by simp [h])⟩, by simp, leN_of [] ?_⟩
      simp [hid, hne]
      omega
    | false =>
      obtain ⟨x, X, rfl⟩ := List.exists_cons_of_ne_nil g1
      simp [hne, hne2, w1, w2]
      refine ⟨by omega, by simp at h2; omega, ⟨K ++ [c], X ++ [c], C⟩, ⟨by simp, by simp at hKX ⊢; omega, by rw [g3]; simp [hp], fun a b h => g4 _ (by simp [h])⟩, by simp, leN_of [] ?_⟩
      have hp2 := del_put K X C x c
      simp only [List.cons_append] at hp2
      have w3 : IntKind.i64.wrap ((K.length : Int) + ((X.length : Int) + 1) + 1) = (K.length : Int) + ((X.length : Int) + 1) + 1 := wrap64_id (by simp at hKX; omega) (by simp at hKX; omega)
      simp [hid, hne, hp2, w3]
      omega
def withB (ns : List (List UInt8)) (fs : List Fd) : List Fd := fs.filter fun f => !dropP ns f
theorem without79 (fs : List Fd) (ns : List (List UInt8)) (hf : fs.length ≤ 1000000) (hf2 : ∀ f ∈ fs, f.1.length ≤ 1000000) (hl : ns.length ≤ 1000000) (hn : ∀ n ∈ ns, n.length ≤ 1000000) :
    PureC Tryz.prog 79 [.sl (fs.map fdP), .sl (ns.map PC.str)] (.sl ((withB ns fs).map fdP)) := by
  obtain ⟨Z, hd⟩ := deletef119 0 1 (by omega) 121 [.ref (.sl (ns.map PC.str))] (dropP ns) fs hf (fun f hx => drop121 ns f hl hn (hf2 f hx))
  change GenC _ _ _ _ (AV.view 0 0 (withB ns fs).length 2 none) ⟨[(0, rowF (withB ns fs ++ Z))], [], 1⟩ at hd
  have htk : List.take ((withB ns fs).length * 2) ((cellsF (withB ns fs ++ Z)).map AV.p) = ((withB ns fs).map fdP).flatMap pcCells := by rw [pcCells_fds, ← List.map_take, cellsF_take, List.take_left]
  have hp := gen_pub hd (ob := rowF (withB ns fs ++ Z)) (ys := (withB ns fs).map fdP) (by simp) rfl (by omega) (by simp [rowF]; omega) htk (by simp) (fd_width _) (fd_tup _)
  refine pure_of_aw (ys := [_]) [] [] [] mixed Tryz.func79 rfl (by kernel_rfl) (by kernel_rfl) (by simp [Tryz.ntmps79]) rfl ?_
  simp
  refine gcall_of0 (clone120 0 fs (by omega)) (by simp) trivial trivial rfl ?_
  simp
  refine gcall_of0 hp (by simp) (by simp [sub1]) trivial rfl ?_
  simp [Tryz.results79]
end Go.Av

/-! part Z127 -/
namespace Go.Av
open Go.Proofs
set_option maxRecDepth 100000
theorem can_80 : CanCall Tryz.prog 80 := ⟨Tryz.f80, Tryz.func80, by kernel_rfl, by kernel_rfl⟩
set_option maxHeartbeats 400000 in
theorem gclone80 (nx : Nat) (xs : List PC) (hw : ∀ x ∈ xs, x.width = 1) (ht : ∀ x ∈ xs, noTup x = true) (hb : xs.length ≤ 1000000000000) :
    GenC Tryz.prog 80 [.p (.sl xs)] ⟨[], [], nx⟩ (.view nx 0 xs.length 1 none) ⟨[(nx, ⟨5, 1, (xs.flatMap pcs).map .p⟩)], [], nx + 1⟩ := by
  refine gen_nil (pre := []) (post := []) can_80 ?_ ?_
  · rintro rfl
    refine gen_void (r := .p .nil) (tb' := ⟨[], [], nx⟩) (el := 5) (s := 1) ?_ trivial
    refine gen_of_aw (rs := [.p .nil]) [7] [] [] mixed Tryz.func80 rfl (by kernel_rfl) (by kernel_rfl) (by simp [Tryz.ntmps80]) rfl ?_
    simp [Tryz.results80]
    exact ⟨[], by simp⟩
  · refine gen_of_aw (rs := [_]) [7] [] [] mixed Tryz.func80 rfl (by kernel_rfl) (by kernel_rfl) (by simp [Tryz.ntmps80]) rfl ?_
    simp [Tryz.results80]
    refine ⟨hw, ht, by omega, by omega, [], ?_⟩
    simp
theorem bytes_w (l : List UInt8) : ∀ x ∈ bytesPC l, x.width = 1 := fun x h => by obtain ⟨c, _, rfl⟩ := List.mem_map.1 h; rfl
theorem bytes_t (l : List UInt8) : ∀ x ∈ bytesPC l, noTup x = true := fun x h => by obtain ⟨c, _, rfl⟩ := List.mem_map.1 h; rfl
theorem bytes_c (l : List UInt8) : (bytesPC l).flatMap pcCells = ((bytesPC l).flatMap pcs).map AV.p := by
  induction l with
  | nil => rfl
  | cons c l ih => 
    have e : bytesPC (c :: l) = u8P c :: bytesPC l := rfl
    rw [e, List.flatMap_cons, List.flatMap_cons, ih, List.map_append]; rfl
theorem bytes_p (l : List UInt8) : (bytesPC l).flatMap pcs = bytesPC l := by
  induction l with
  | nil => rfl
  | cons c l ih => 
    have e : bytesPC (c :: l) = u8P c :: bytesPC l := rfl
    rw [e, List.flatMap_cons, ih]; rfl
theorem clone80 (l : List UInt8) (hl : l.length ≤ 1000000000000) : PureC Tryz.prog 80 [.sl (bytesPC l)] (.sl (bytesPC l)) := by
  have hb : (bytesPC l).length = l.length := bytesPC_len l
  have h := gclone80 0 (bytesPC l) (bytes_w l) (bytes_t l) (by omega)
  have hp := gen_pub h (ob := ⟨5, 1, ((bytesPC l).flatMap pcs).map .p⟩) (ys := bytesPC l) (by simp) rfl (by omega) (by simp [bytes_p]) (by rw [bytes_c]; exact List.take_of_length_le (by simp [bytes_p])) rfl (bytes_w l) (bytes_t l)
  exact pure_of_gen (xs := [.sl (bytesPC l)]) hp ⟨_, rfl, .inl rfl⟩
def cnnN : List UInt8 := [99, 111, 110, 110, 101, 99, 116, 105, 111, 110]
def clnN : List UInt8 := [99, 111, 110, 116, 101, 110, 116, 45, 108, 101, 110, 103, 116, 104]
def tenN : List UInt8 := [116, 114, 97, 110, 115, 102, 101, 114, 45, 101, 110, 99, 111, 100, 105, 110, 103]
def hopL : List (List UInt8) := [cnnN, [107, 101, 101, 112, 45, 97, 108, 105, 118, 101], [112, 114, 111, 120, 121, 45, 97, 117, 116, 104, 101, 110, 116, 105, 99, 97, 116, 101], [112, 114, 111, 120, 121, 45, 97, 117, 116, 104, 111, 114, 105, 122, 97, 116, 105, 111, 110], [112, 114, 111, 120, 121, 45, 99, 111, 110, 110, 101, 99, 116, 105, 111, 110], [116, 101], [116, 114, 97, 105, 108, 101, 114], tenN, [117, 112, 103, 114, 97, 100, 101]]
def namesP (fs : List Fd) : List (List UInt8) := hopL ++ splitB (getB fs cnnN)
def passB (fs : List Fd) : List Fd := withB (namesP fs) fs
theorem namesP_ok (fs : List Fd) (hf : FdOk fs) : (namesP fs).length ≤ 1000100 ∧ ∀ n ∈ namesP fs, n.length ≤ 1000000 := by
  have h1 := split_cnt fs cnnN hf
  refine ⟨by unfold namesP; rw [List.length_append]; simp [hopL]; omega, fun n hn => ?_⟩
  rcases List.mem_append.1 hn with hn | hn
  · have : ∀ n ∈ hopL, n.length ≤ 1000000 := by decide
    exact this n hn
  · exact piece_get fs cnnN hf n hn
theorem Pass34 (fs : List Fd) (hf : FdOk fs) (hs : (splitB (getB fs cnnN)).length ≤ 900000) : PureC Tryz.prog 34 [.sl (fs.map fdP)] (.sl ((passB fs).map fdP)) := by
  have hw := without79 fs (namesP fs) hf.1 hf.2.2 (by unfold namesP; rw [List.length_append]; simp [hopL]; omega) (namesP_ok fs hf).2
  have hq : (hopL.map PC.str) ++ (splitB (getB fs cnnN)).map PC.str = (namesP fs).map PC.str := by simp [namesP]
  refine pure_of_aw (ys := [_]) [] [] [] mixed Tryz.func34 rfl (by kernel_rfl) (by kernel_rfl) (by simp [Tryz.ntmps34]) rfl ?_
  simp
  refine pcall_of (get107 fs cnnN hf (by decide)) (by simp [cnnN]) ?_
  simp
  refine pcall_of (split_get fs cnnN hf) (by simp) ?_
  simp
  refine ⟨by omega, by omega, ?_⟩
  refine pcall_of hw (by rw [← hq]; simp [hopL, cnnN, tenN]) ?_
  simp [passB, Tryz.results34]
def keptF (fs : List Fd) : List Fd := withB [clnN] (passB fs)
def keptM (x : Msg) : Msg := { x with fs := keptF x.fs }
theorem with_sub (ns : List (List UInt8)) (fs : List Fd) : ∀ f ∈ withB ns fs, f ∈ fs := fun f h => (List.mem_filter.1 h).1
theorem with_len (ns : List (List UInt8)) (fs : List Fd) : (withB ns fs).length ≤ fs.length := List.length_filter_le _ _
theorem Kept33 (x : Msg) (hf : FdOk x.fs) (hs : (splitB (getB x.fs cnnN)).length ≤ 900000) (hb : x.body.length ≤ 1000000) : PureC Tryz.prog 33 [msP x] (.agg false (msgL (keptM x))) := by
  have hp := Pass34 x.fs hf hs
  have h1 := with_len (namesP x.fs) x.fs
  have h2 := with_sub (namesP x.fs) x.fs
  have hw := without79 (passB x.fs) [clnN] (by have := hf.1; unfold passB; omega) (fun f h => hf.2.2 f (h2 f h)) (by decide) (by decide)
  have hc := clone80 x.body (by omega)
  refine pure_of_aw (ys := [_]) [1] [] [] mixed Tryz.func33 rfl (by kernel_rfl) (by kernel_rfl) (by simp [Tryz.ntmps33]) rfl ?_
  simp
  refine pcall_of hp (by simp) ?_
  simp
  refine pcall_of hw (by simp [clnN]) ?_
  simp
  refine pcall_of hc (by simp) ?_
  simp [keptM, keptF, Tryz.results33]
theorem rwithout81 (fs : List Fd) (n : List UInt8) (hl : fs.length ≤ 1000000) (hf : ∀ f ∈ fs, f.1.length ≤ 1000000) (hn : n.length ≤ 1000000) : PureC Tryz.prog 81 [.sl (fs.map fdP), .str n] (.sl ((fs.filter fun f => !isB n f).map fdP)) := by
  refine pure_of_aw (ys := [_]) [] [] [] mixed Tryz.func81 rfl (by kernel_rfl) (by kernel_rfl) (by simp [Tryz.ntmps81]) rfl ?_
  obtain ⟨R, hR⟩ : ∃ R, R = fs.filter fun f => !isB n f := ⟨_, rfl⟩
  rw [← hR]
  simp
  refine aw_loop (fun y : Nat × List Fd => y.1 ≤ fs.length ∧ R = y.2 ++ (fs.drop y.1).filter fun f => !isB n f) (fun y => [(0, .p (.sl (fs.map fdP))), (1, .p (.str n)), (5, .own 0 (y.2.map fdP)), (6, .p (.int y.1))])
    (fun y => ⟨[], [(0, 49, 2)], 1⟩) (fun y => fs.length - y.1) (0, []) ⟨by simp, by simpa using hR⟩ _ (le_own 5 49 2 [] (.inr ⟨rfl, by simp⟩)) (leN_id (by simp)) ?_
  rintro ⟨i, out⟩ ⟨h1, h2⟩
  simp only at h1 h2
  have hRl : R.length ≤ fs.length := by rw [hR]; exact List.length_filter_le _ _
  by_cases c : i < fs.length
  · rw [List.drop_eq_getElem_cons c, List.filter_cons] at h2
    have wi : IntKind.i64.wrap ((i : Int) + 1) = ((i + 1 : Nat) : Int) := by rw [wrap64_id (by omega) (by omega)]; rfl
    have hfl := hf fs[i] (List.getElem_mem c)
    simp [c]
    refine pcall_of (rlower32 fs[i].1 hfl) (by simp) ?_
    simp
    refine pcall_of (rlower32 n hn) (by simp) ?_
    by_cases e : lowB fs[i].1 = lowB n
    · have d : (lowB fs[i].1 != lowB n) = false := by simpa using e
      have d2 : isB n fs[i] = true := by simpa [isB] using e
      simp [d2] at h2
      simp [d, wi]
      exact ⟨i + 1, out, ⟨by omega, h2⟩, by omega, leN_id (by simp)⟩
    · have d : (lowB fs[i].1 != lowB n) = true := by simpa using e
      have d2 : isB n fs[i] = false := by simpa [isB] using e
      simp [d2] at h2
      have hol : out.length ≤ 1000000 := by
        have := congrArg List.length h2
        simp at this; omega
      simp [c, d, wi]
      exact ⟨fun y a b _ e => by rw [← e]; rfl, by omega, by omega, i + 1, out ++ [fs[i]], ⟨by omega, by rw [h2]; simp⟩, by omega, leN_of [(0, 1)] (by simp)⟩
  · obtain rfl : i = fs.length := by omega
    rw [List.drop_length] at h2
    simp at h2
    subst h2
    simp [Tryz.results81]
theorem with_cons (n : List UInt8) (ns : List (List UInt8)) (fs : List Fd) : withB (n :: ns) fs = withB ns (fs.filter fun f => !isB n f) := by
  unfold withB dropP
  rw [List.filter_filter]
  congr 1
  funext f
  simp [Bool.and_comm]
theorem with_nil (fs : List Fd) : withB [] fs = fs := by simp [withB, dropP]
theorem rsplit_get (fs : List Fd) (n : List UInt8) (hf : FdOk fs) : PureC Tryz.prog 38 [.sl ((getB fs n).map PC.str)] (.sl ((splitB (getB fs n)).map PC.str)) := by
  have hl := getB_len fs n
  have ht := getB_tot fs n
  have h1 := hf.1
  have h2 := hf.2.1
  exact rsplit49 _ (by omega) (by omega) (fun v hv => Nat.le_trans (totB_mem hv) (by omega))
theorem rpass37 (fs : List Fd) (hf : FdOk fs) (hs : (splitB (getB fs cnnN)).length ≤ 900000) : PureC Tryz.prog 37 [.sl (fs.map fdP)] (.sl ((passB fs).map fdP)) := by
  have hnp := (namesP_ok fs hf).2
  have hq : (hopL.map PC.str) ++ (splitB (getB fs cnnN)).map PC.str = (namesP fs).map PC.str := by simp [namesP]
  have hqq := hq
  have hln : (namesP fs).length ≤ 1000000 := by unfold namesP; rw [List.length_append]; simp [hopL]; omega
  refine pure_of_aw (ys := [_]) [] [] [] mixed Tryz.func37 rfl (by kernel_rfl) (by kernel_rfl) (by simp [Tryz.ntmps37]) rfl ?_
  obtain ⟨R, hR⟩ : ∃ R, R = passB fs := ⟨_, rfl⟩
  rw [← hR]
  unfold passB at hR
  simp
  refine pcall_of (rget108 fs cnnN hf (by decide)) (by simp [cnnN]) ?_
  simp
  refine pcall_of (rsplit_get fs cnnN hf) (by simp) ?_
  simp
  refine ⟨by omega, by omega, ?_⟩
  generalize namesP fs = ns at *
  refine aw_loop (fun y : Nat × List Fd => y.1 ≤ ns.length ∧ R = withB (ns.drop y.1) y.2 ∧ y.2.length ≤ 1000000 ∧ ∀ f ∈ y.2, f.1.length ≤ 1000000) (fun y => [(0, .p (.sl (y.2.map fdP))), (3, .own 0 (ns.map PC.str)), (4, .p (.int y.1))])
    (fun y => ⟨[], [(0, 9, 1)], 1⟩) (fun y => ns.length - y.1) (0, fs) ⟨by simp, by simpa using hR, hf.1, hf.2.2⟩ _ (AS.le_refl _ _) (leN_id (by simp; exact hqq)) ?_
  rintro ⟨i, cur⟩ ⟨h1, h2, h3, h4⟩
  simp only at h1 h2 h3 h4
  by_cases c : i < ns.length
  · rw [List.drop_eq_getElem_cons c, with_cons] at h2
    have wi : IntKind.i64.wrap ((i : Int) + 1) = ((i + 1 : Nat) : Int) := by rw [wrap64_id (by omega) (by omega)]; rfl
    simp [c]
    refine pcall_of (rwithout81 cur ns[i] h3 h4 (hnp _ (List.getElem_mem c))) (by simp) ?_
    simp [wi]
    exact ⟨i + 1, cur.filter fun f => !isB ns[i] f, ⟨by omega, h2, Nat.le_trans (List.length_filter_le _ _) h3, fun a b h => h4 _ (List.mem_filter.1 h).1⟩, by omega, leN_id (by simp)⟩
  · obtain rfl : i = ns.length := by omega
    rw [List.drop_length, with_nil] at h2
    subst h2
    simp [Tryz.results37]
theorem with_one (n : List UInt8) (fs : List Fd) : withB [n] fs = fs.filter fun f => !isB n f := by rw [with_cons, with_nil]
theorem rkept36 (fs : List Fd) (hf : FdOk fs) (hs : (splitB (getB fs cnnN)).length ≤ 900000) : PureC Tryz.prog 36 [.sl (fs.map fdP)] (.sl ((keptF fs).map fdP)) := by
  have hp := rpass37 fs hf hs
  have h1 := with_len (namesP fs) fs
  have h2 := with_sub (namesP fs) fs
  have hw := rwithout81 (passB fs) clnN (by have := hf.1; unfold passB; omega) (fun f h => hf.2.2 f (h2 f h)) (by decide)
  rw [← with_one] at hw
  refine pure_of_aw (ys := [_]) [] [] [] mixed Tryz.func36 rfl (by kernel_rfl) (by kernel_rfl) (by simp [Tryz.ntmps36]) rfl ?_
  simp
  refine pcall_of hp (by simp) ?_
  simp
  refine pcall_of hw (by simp [clnN]) ?_
  simp [keptF, Tryz.results36]
theorem same35 (a b : List Fd) (ha : a.length ≤ 1000000) (hb : b.length ≤ 1000000) : PureC Tryz.prog 35 [.sl (a.map fdP), .sl (b.map fdP)] (.bool (decide (a = b))) := by
  refine pure_of_aw (ys := [_]) [] [] [] mixed Tryz.func35 rfl (by kernel_rfl) (by kernel_rfl) (by simp [Tryz.ntmps35]) rfl ?_
  obtain ⟨R, hR⟩ : ∃ R, R = decide (a = b) := ⟨_, rfl⟩
  rw [← hR]
  by_cases hl : a.length = b.length
  case neg =>
    have hn : ¬ a = b := fun e => hl (by rw [e])
    have d : ((a.length : Int) != (b.length : Int)) = true := by simp; omega
    rw [decide_eq_false hn] at hR
    subst hR
    simp [d, Tryz.results35]
  have d : ((a.length : Int) != (b.length : Int)) = false := by simp; omega
  simp [d]
  refine aw_loop0 (fun i : Nat => i ≤ a.length ∧ a.take i = b.take i) (fun i => [(0, .p (.sl (a.map fdP))), (1, .p (.sl (b.map fdP))), (5, .p (.int i))]) (fun i => a.length - i) 0 ⟨by simp, by simp⟩ (leN_id (by simp)) ?_
  rintro i ⟨h1, h2⟩
  by_cases c : i < a.length
  · have c2 : i < b.length := by omega
    have wi : IntKind.i64.wrap ((i : Int) + 1) = ((i + 1 : Nat) : Int) := by rw [wrap64_id (by omega) (by omega)]; rfl
    by_cases e : a[i] = b[i]
    · have hd : (!a[i].1 == b[i].1 || !a[i].2 == b[i].2) = false := by rw [e]; simp
      simp [c, c2, hd, wi]
      exact ⟨i + 1, ⟨by omega, by rw [List.take_succ_eq_append_getElem c, List.take_succ_eq_append_getElem c2, h2, e]⟩, by omega, leN_id (by simp)⟩
    · have hd : (!a[i].1 == b[i].1 || !a[i].2 == b[i].2) = true := by
        have : ¬ (a[i].1 = b[i].1 ∧ a[i].2 = b[i].2) := fun h => e (Prod.ext h.1 h.2)
        by_cases h1 : a[i].1 = b[i].1 <;> by_cases h2 : a[i].2 = b[i].2 <;> simp_all
      have hn : ¬ a = b := fun h => e (by subst h; rfl)
      rw [decide_eq_false hn] at hR
      subst hR
      simp [c, c2, hd, Tryz.results35]
  · obtain rfl : i = a.length := by omega
    have e : a = b := by
      rw [List.take_length, hl, List.take_length] at h2; exact h2
    rw [decide_eq_true e] at hR
    subst hR
    simp [Tryz.results35]
end Go.Av

/-! part Z128 -/
namespace Go.Av
open Go.Proofs
set_option maxRecDepth 100000
theorem kept_sub (fs : List Fd) : ∀ f ∈ keptF fs, f ∈ fs := fun f h => with_sub _ _ f (with_sub _ _ f h)
theorem kept_len (fs : List Fd) : (keptF fs).length ≤ fs.length := Nat.le_trans (with_len _ _) (with_len _ _)
theorem shr_b {x : Msg} (h : shrM x = true) : x.body.length ≤ 1000 := by
  unfold shrM at h
  simp only [Bool.and_eq_true, decide_eq_true_eq] at h
  exact h.1.1.2
theorem split_small {fs : List Fd} (hl : fs.length ≤ 100) (hs : ∀ f ∈ fs, f.1.length ≤ 300 ∧ f.2.length ≤ 500) (n : List UInt8) : (splitB (getB fs n)).length ≤ 900000 := by
  have h1 := splitB_len (getB fs n)
  have h2 := getB_tot fs n
  have h3 := tot_le hs
  omega
end Go.Av

/-! part Z129 -/
namespace Go.Av
open Go.Proofs
end Go.Av
