/- How messages are read; what the world's shape says. -/
import Derived.Test.YtffoncjofjgojaaGreatDoorZh
import Derived.Handed
import Derived.Shelf.Vars
set_option linter.all false
/-! part Z105 -/
namespace Go.Av
open Go.Proofs
set_option maxRecDepth 100000
theorem parse_D : DB parseD := ⟨fun s => (parse_b s).1, fun s => (parse_b s).2⟩
theorem one_len {fs : List Fd} (h : ∀ f ∈ fs, f.1.length ≤ 300 ∧ f.2.length ≤ 500) (n : List UInt8) : (oneB fs n).1.length ≤ 500 := by
  have hm : ∀ v ∈ getB fs n, v.length ≤ 500 := fun v hv => by
    unfold getB at hv
    obtain ⟨f, hf, rfl⟩ := List.mem_map.1 hv
    exact (h f (List.mem_filter.1 hf).1).2
  unfold oneB
  split
  · rename_i v hv; exact hm v (by rw [hv]; simp)
  · simp
theorem parse_Fs {fs : List Fd} (h : shortB fs = true) : DFs parseD fs := by
  have hs := (short_ok h).2.2
  exact ⟨fun _ => Parse117 _ (by have := one_len hs datN; omega), fun _ => Parse117 _ (by have := one_len hs expN; omega), fun _ => Parse117 _ (by have := one_len hs lamN; omega)⟩
end Go.Av

/-! part Z106 -/
namespace Go.Av
open Go.Proofs
set_option maxRecDepth 100000
end Go.Av

/-! part Z107 -/
namespace Go.Av
open Go.Proofs

theorem cellsT5 : Tryz.prog.cellsOf 5 = 1 := by kernel_rfl
theorem cellsT9 : Tryz.prog.cellsOf 9 = 1 := by kernel_rfl
theorem cellsT23 : Tryz.prog.cellsOf 23 = 5 := by kernel_rfl
theorem cellsT24 : Tryz.prog.cellsOf 24 = 1 := by kernel_rfl
theorem cellsT25 : Tryz.prog.cellsOf 25 = 1 := by kernel_rfl
theorem cellsT27 : Tryz.prog.cellsOf 27 = 7 := by kernel_rfl
theorem cellsT49 : Tryz.prog.cellsOf 49 = 2 := by kernel_rfl
theorem bounds_u8 {n : Int} (h : (Lit.int .u8 n).wf = true) : 0 ≤ n ∧ n ≤ 255 := by
  have a : IntKind.u8.min = 0 := rfl
  have b : IntKind.u8.max = 255 := rfl
  simp only [Lit.wf, Bool.and_eq_true, decide_eq_true_eq, a, b] at h
  exact h
theorem bytes_of_l {xs : List PC} (h : ∀ x ∈ xs, ∃ n : Int, x = .sc (.int .u8 n) ∧ (Lit.int .u8 n).wf = true) : ∃ ks : List UInt8, xs = bytesPC ks := by
  induction xs with
  | nil => exact ⟨[], rfl⟩
  | cons x xs ih =>
    obtain ⟨ks, rfl⟩ := ih fun y hy => h y (by simp [hy])
    obtain ⟨n, rfl, hw⟩ := h x (by simp)
    have hb := bounds_u8 hw
    refine ⟨UInt8.ofNat n.toNat :: ks, ?_⟩
    have e : ((UInt8.ofNat n.toNat).toNat : Int) = n := by
      rw [UInt8.toNat_ofNat']; omega
    simp only [bytesPC, List.map_cons, e]
def bytesS (x : PC) : Prop := ∃ b : List UInt8, x = .sl (bytesPC b) ∧ b.length ≤ 9223372036854775807
theorem rdB : RdU Tryz.prog 25 bytesS :=
  (rd_slice Tryz.underlying25 (by rw [cellsT5]; omega) (rd_int Tryz.underlying5)).mono fun x ⟨xs, h, hl, hv⟩ => by
    obtain ⟨ks, rfl⟩ := bytes_of_l hv; exact ⟨ks, h, by simp [maxLen] at hl; omega⟩
theorem flds_of_l {xs : List PC} (h : ∀ x ∈ xs, ∃ f : Fd, x = fdP f) : ∃ fs : List Fd, xs = fs.map fdP := by
  induction xs with
  | nil => exact ⟨[], rfl⟩
  | cons x xs ih =>
    obtain ⟨ks, rfl⟩ := ih fun y hy => h y (by simp [hy])
    obtain ⟨f, rfl⟩ := h x (by simp)
    exact ⟨f :: ks, rfl⟩
def fldsS (x : PC) : Prop := ∃ fs : List Fd, x = .sl (fs.map fdP) ∧ fs.length ≤ 9223372036854775807
theorem rdF : RdC Tryz.prog 49 (fun x => ∃ f : Fd, x = fdP f) := (rd_struct (Ss := [_, _]) Tryz.underlying49 (by rw [cellsT49]; simp [totF, cellsT9])
    ⟨rfl, (rd_string Tryz.underlying9).c, (by simp [cellsT9]), (rd_string Tryz.underlying9).c, trivial⟩).mono (by
  rintro x ⟨ys, rfl, h⟩
  obtain ⟨_, ys1, rfl, ⟨n, rfl, w1⟩, h1⟩ := all2_c h
  obtain ⟨_, rfl, v, rfl, w2⟩ := all2_1 h1
  exact ⟨(n, v), rfl⟩)
theorem rdFs : RdU Tryz.prog 24 fldsS :=
  (rd_slice Tryz.underlying24 (by rw [cellsT49]; omega) rdF).mono fun x ⟨xs, h, hl, hv⟩ => by
    obtain ⟨ks, rfl⟩ := flds_of_l hv; exact ⟨ks, h, by simp [maxLen] at hl; omega⟩
def startS (x : PC) : Prop := ∃ (m t : List UInt8) (st : Int) (r : List UInt8) (mi : Int), x = .agg false [.str m, .str t, .int st, .str r, .int mi] ∧ i64b st ∧ i64b mi ∧ m.length ≤ 9223372036854775807
theorem rdSt : RdC Tryz.prog 23 startS := (rd_struct (Ss := [_, _, _, _, _]) Tryz.underlying23 (by rw [cellsT23]; simp [totF, cellsT3, cellsT9])
    ⟨rfl, (rd_string Tryz.underlying9).c, (by simp [cellsT9]), (rd_string Tryz.underlying9).c, (by simp [cellsT9]), (rd_int Tryz.underlying3).c, (by simp [cellsT9, cellsT3]), (rd_string Tryz.underlying9).c, (by simp [cellsT9, cellsT3]), (rd_int Tryz.underlying3).c, trivial⟩).mono (by
  rintro x ⟨ys, rfl, h⟩
  obtain ⟨_, ys1, rfl, ⟨m, rfl, w1⟩, h1⟩ := all2_c h
  obtain ⟨_, ys2, rfl, ⟨t, rfl, w2⟩, h2⟩ := all2_c h1
  obtain ⟨_, ys3, rfl, ⟨st, rfl, w3⟩, h3⟩ := all2_c h2
  obtain ⟨_, ys4, rfl, ⟨r, rfl, w4⟩, h4⟩ := all2_c h3
  obtain ⟨_, rfl, mi, rfl, w5⟩ := all2_1 h4
  simp only [maxLen] at w1
  exact ⟨m, t, st, r, mi, rfl, bounds_i64 w3, bounds_i64 w5, by simpa using w1⟩)
structure MsgOk (x : Msg) : Prop where
  fs : x.fs.length ≤ 9223372036854775807
  b : x.body.length ≤ 9223372036854775807
  st : i64b x.st
  mi : i64b x.mi
  m : x.m.length ≤ 9223372036854775807
def msgS (x : PC) : Prop := ∃ m : Msg, x = .agg false (msgL m) ∧ MsgOk m
theorem rd27 : RdV Tryz.prog 27 msgS := by
  refine rv_struct Tryz.underlying27 ((rd_struct (Ss := [_, _, _]) Tryz.underlying27 (by rw [cellsT27]; simp [totF, cellsT23, cellsT24, cellsT25])
    ⟨rfl, rdSt, (by simp [cellsT23]), rdFs.c, (by simp [cellsT23, cellsT24]), rdB.c, trivial⟩).mono ?_) ?_
  · rintro x ⟨ys, rfl, h⟩
    obtain ⟨_, ys1, rfl, ⟨m, t, st, r, mi, rfl, w1, w2, w5⟩, h1⟩ := all2_c h
    obtain ⟨_, ys2, rfl, ⟨fs, rfl, w3⟩, h2⟩ := all2_c h1
    obtain ⟨_, rfl, b, rfl, w4⟩ := all2_1 h2
    exact ⟨⟨m, t, st, r, mi, fs, b⟩, rfl, w3, w4, w1, w2, w5⟩
  · rintro x ⟨m, rfl, _⟩; exact ⟨_, rfl⟩
end Go.Av

/-! part Z108 -/
namespace Go.Av
open Go.Proofs Go.ChangeShapes Go.WideShapes Go.ChangeAt Go.RowKit
theorem gok {W : World} (h : W.ShapedOpen Tryz.prog) : GOk (memOf W) := by
  obtain ⟨m, hm⟩ := cell_of_shapedOpen_int (g := 0) (t := 3) (zero := #[.int .i64 0]) (k := .i64) h (of_decide_eq_true (by kernel_rfl)) (by kernel_rfl) rfl (by kernel_rfl) (by kernel_rfl) Tryz.underlying3
  exact ⟨m, hm⟩
theorem handed_shaped {H : Type} {enc : TypeId × Value → H} {a : Assume} {C : Checked} {os : Os} {f : FuncId} {fn : Func} {s : ChangeSpec} {conds : List PathCond} {apart fresh handsOn again : Bool} {X : World → Array Value → Prop}
    (hX : ∀ (w w' : World) (args : Array Value), w.heap = w'.heap → X w args → X w' args)
    (own : ownKnob C.prog.godebug = none) (started : os.Started) (noInit : C.prog.inits.idxOf? f = none) (hfn : C.prog.funcs[f]? = some fn)
    (witness : ∃ (w : World) (tape : Tape) (i : Input), w.os = os ∧ (w.forCall tape i).Shaped C.prog ∧ i.vars = [] ∧ Input.okWide C.prog (w.forCall tape i) .any w.heap.size f i ∧
      ((s.pre enc C.prog fn conds apart (w.forCall tape i).memory i.args ∧ X (w.forCall tape i).memory i.args) ∧ sizedMet enc C.prog fn (OpenSpec.ofChange s) apart (w.forCall tape i).memory i.args) ∧ a.holds C.prog (lone (Frame.enter C.prog f i.args .normal) [] (w.forCall tape i)))
    (contract : ∀ (W : World) (base : Nat) (args : Array Value) (ds gs : List (DataW H)) (before : List MemPlace), W.ShapedOpen C.prog →
      (∀ (j : Nat) t v, fn.params[j]? = some t → args[j]? = some v → Value.okWide C.prog W .any base t v) →
      DataW.Whole enc C.prog fn.params.toList s.vars apart W args.toList ds gs before →
      Calls C.prog f args W fun e W' => ∃ v, e = .returned v ∧ s.post enc C.prog fn apart fresh handsOn again W args v W') :
    ReturnsInHanded a C os f .any (fun w args => (s.pre enc C.prog fn conds apart w args ∧ X w args) ∧ sizedMet enc C.prog fn (OpenSpec.ofChange s) apart w args) (s.post enc C.prog fn apart fresh handsOn again) := by
  refine returnsInHanded_of_calls own started noInit witness fun w tape i _ hsh _ hok hpre _ => ?_
  obtain ⟨_, _, _, fn', hfn', _, _, _, _, hval⟩ := hok
  cases Option.some.inj (hfn'.symm.trans hfn)
  obtain ⟨⟨⟨ds, gs, before, hw, hc⟩, hx⟩, hz⟩ := hpre
  have hw' := DataW.Whole.of_heap (w' := w.forCall tape i) (by rfl) hw
  refine (contract (w.forCall tape i) w.heap.size i.args ds gs before hsh hval hw').mono fun e W' ⟨v, he, hp⟩ => ?_
  subst he
  exact ChangeSpec.post_blind hp
end Go.Av
