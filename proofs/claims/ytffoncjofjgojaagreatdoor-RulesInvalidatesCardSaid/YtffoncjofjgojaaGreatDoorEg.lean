/- An abstract interpreter over the program's form, with the proof that it is sound: part Eg. Own work. It holds for any program that the model takes. -/
import Derived.Test.YtffoncjofjgojaaGreatDoorEf
import Derived.ProofKit
import Derived.OpenShut
import Derived.Carry
set_option linter.all false
/-! part AvLaw -/
namespace Go.Av
open Go.RowKit Go.ChangeShapes Go.WideShapes Go.ChangeAt

section
variable {P : Program}

/-- Whatever reads by this type stands for such a value. -/
def RdU (P : Program) (t : TypeId) (S : PC → Prop) : Prop :=
  ∀ (H : Type) (enc : TypeId × Value → H) (W : World) (fuel : Nat) (cs : List Value) (r : DataW H × List MemPlace), DataW.trod enc P W 0 (fun _ => true) true fuel t cs = some r →
    ∃ u x, u.cells.toList = cs ∧ Rep (memOf W) u x ∧ S x ∧ noTup x = true ∧ (∀ c ∈ cs, c.oneCell' = true)

abbrev RdC (P : Program) (t : TypeId) (S : PC → Prop) : Prop := RdU P t S
theorem RdU.c {t : TypeId} {S : PC → Prop} (h : RdU P t S) : RdC P t S := h
theorem RdU.mono {t : TypeId} {S S' : PC → Prop} (h : RdU P t S) (hS : ∀ x, S x → S' x) : RdU P t S' := fun H enc W fuel cs r hr => by
  obtain ⟨u, x, h1, h2, h3, h4⟩ := h H enc W fuel cs r hr
  exact ⟨u, x, h1, h2, hS x h3, h4⟩

theorem RdC.mono {t : TypeId} {S S' : PC → Prop} (h : RdC P t S) (hS : ∀ x, S x → S' x) : RdC P t S' := RdU.mono h hS

theorem rd_int {t : TypeId} {k : IntKind} (ht : P.underlying t = some (.int k)) : RdU P t (fun x => ∃ n, x = .sc (.int k n) ∧ (Lit.int k n).wf = true) := fun H enc W fuel cs r hr => by
  obtain ⟨n, rfl, _, hw⟩ := DataW.trod_int ht hr
  exact ⟨.int k n, .sc (.int k n), rfl, .sc _ rfl, ⟨n, rfl, hw⟩, rfl, by simp [Value.oneCell']⟩
theorem rd_string {t : TypeId} (ht : P.underlying t = some .string) : RdU P t (fun x => ∃ s : List UInt8, x = .str s ∧ s.length ≤ maxLen) := fun H enc W fuel cs r hr => by
  obtain ⟨s, rfl, _, hw⟩ := DataW.trod_string ht hr
  refine ⟨.string s, .sc (.string s), rfl, .sc _ rfl, ⟨s.data.toList, ?_, ?_⟩, rfl, by simp [Value.oneCell']⟩
  · show PC.sc _ = PC.sc (strV _); simp [strV]
  · have e : s.data.toList.length = s.size := by rw [Array.length_toList]; rfl
    rw [e]; exact hw

theorem wcells {w : World} {base : Nat} {a : Addr} {n : Nat} {cs : List Value} (h : w.cells? base a n = some cs) : cs.length = n ∧ ∀ i, i < n → w.cell? (a.add i) = cs[i]? := by
  unfold World.cells? at h
  split at h
  · exact ⟨by simpa using mapM_some_length h, fun i hi => mapM_some_get h i i (by simp [hi])⟩
  · cases h

theorem addr_plain {a : Addr} (h : a.spot = none) : a = ⟨a.block, a.off, none⟩ := by cases a; simp_all
theorem add_plain {a : Addr} (h : a.spot = none) (i : Nat) : a.add i = ⟨a.block, a.off + i, none⟩ := by
  unfold Addr.add; split
  · rename_i e; subst e; rw [addr_plain h]; rfl
  · rw [addr_plain h]
theorem cell_plain {w : World} {a : Addr} {v : Value} (h : w.cell? a = some v) : a.spot = none := by
  unfold World.cell? at h
  split at h
  · split at h
    · cases h
    · rename_i hn; cases hs : a.spot with
      | none => rfl
      | some x => rw [hs] at hn; simp at hn
  · cases h

/-- the elements of a row, one after the other -/
theorem rd_elems {e : TypeId} {S : PC → Prop} (he : RdU P e S) (hz : 0 < P.cellsOf e) {H : Type} {enc : TypeId × Value → H} {W : World} {m : Nat} {a : Addr} (ha : a.spot = none) :
    ∀ (n : Nat), (∀ i, i < n → ∃ y, (W.cells? 0 (a.add (i * P.cellsOf e)) (P.cellsOf e)).bind (DataW.trod enc P W 0 (fun _ => true) true m e) = some y) →
      ∃ us xs, us.length = n ∧ Reps (memOf W) us xs ∧ (∀ u ∈ us, u.cells.size = P.cellsOf e) ∧ (∀ v ∈ cellsOf us, v.oneCell' = true) ∧ At (memOf W) a.block a.off (cellsOf us) ∧ (cellsOf us).length = n * P.cellsOf e ∧ (∀ x ∈ xs, S x)
  | 0, _ => ⟨[], [], rfl, .nil, by simp, by simp [cellsOf], fun j v h => by simp [cellsOf] at h, by simp [cellsOf], by simp⟩
  | n + 1, h => by
    obtain ⟨us, xs, h1, h2, h3, h4, h5, h6, h7⟩ := rd_elems he hz ha n fun i hi => h i (by omega)
    obtain ⟨y, hy⟩ := h n (by omega)
    cases hc : W.cells? 0 (a.add (n * P.cellsOf e)) (P.cellsOf e) with
    | none => rw [hc] at hy; cases hy
    | some cs =>
      rw [hc] at hy
      obtain ⟨u, x, k1, k2, k3, _, k4⟩ := he H enc W m cs y hy
      obtain ⟨c1, c2⟩ := wcells hc
      have hsz : u.cells.size = P.cellsOf e := by rw [← c1, ← k1]; simp
      have hcell : cellsOf (us ++ [u]) = cellsOf us ++ cs := by simp [cellsOf, k1]
      refine ⟨us ++ [u], xs ++ [x], by simp [h1], h2.append (.cons k2 .nil), ?_, ?_, ?_, ?_, ?_⟩
      · intro v hv; rcases List.mem_append.1 hv with hv | hv
        · exact h3 v hv
        · simp at hv; subst hv; exact hsz
      · rw [hcell]; intro v hv; rcases List.mem_append.1 hv with hv | hv
        · exact h4 v hv
        · exact k4 v hv
      · rw [hcell]
        intro j v hj
        rw [List.getElem?_append] at hj
        split at hj
        · exact h5 j v hj
        · rename_i hlt
          have hj' : j - (cellsOf us).length < P.cellsOf e := by
            rw [← c1]; exact (List.getElem?_eq_some_iff.1 hj).1
          have := c2 _ hj'
          rw [hj, add_plain ha, add_plain (a := ⟨a.block, a.off + n * P.cellsOf e, none⟩) rfl] at this
          show W.cell? ⟨a.block, a.off + j, none⟩ = some v
          rw [← this]
          have e : a.off + j = a.off + n * P.cellsOf e + (j - (cellsOf us).length) := by rw [h6] at hlt ⊢; omega
          rw [e]
      · rw [hcell, List.length_append, h6, c1, Nat.add_mul]; omega
      · intro z hz; rcases List.mem_append.1 hz with hz | hz
        · exact h7 z hz
        · simp at hz; subst hz; exact k3

theorem cells_plain {w : World} {base : Nat} {a : Addr} {n k : Nat} {cs : List Value} (hn : 0 < n) (hk : k = 0) (h : w.cells? base (a.add k) n = some cs) : a.spot = none := by
  subst hk
  obtain ⟨h1, h2⟩ := wcells h
  have h3 := h2 0 hn
  have e : (a.add 0).add 0 = a := by simp [Addr.add]
  rw [e] at h3
  cases cs with
  | nil => simp at h1; omega
  | cons v vs => exact cell_plain (v := v) (by simpa using h3)
theorem rd_slice {t e : TypeId} {S : PC → Prop} (ht : P.underlying t = some (.slice e)) (hz : 0 < P.cellsOf e) (he : RdU P e S) : RdC P t (fun x => ∃ xs, x = .sl xs ∧ xs.length ≤ maxLen ∧ ∀ y ∈ xs, S y) := fun H enc W fuel cs r hr => by
  rcases DataW.trod_slice ht hr with ⟨rfl, _⟩ | ⟨a, len, cap, elems, rest, n, rfl, rfl, _, _, hl, hc, hlen, hel, hsp, _⟩
  · exact ⟨.slice none 0 0, .sl [], rfl, .nilsl, ⟨[], rfl, by simp, by simp⟩, rfl, by simp [Value.oneCell']⟩
  · by_cases h0 : cap = 0
    · subst h0
      obtain rfl : len = 0 := by omega
      exact ⟨.slice (some a) 0 0, .sl [], rfl, .sl0 a, ⟨[], rfl, by simp, by simp⟩, rfl, by simp [Value.oneCell']⟩
    have ha : a.spot = none := by
      rcases Nat.eq_zero_or_pos len with hz0 | hp
      · obtain ⟨hr1, hr2⟩ := hsp rfl
        have := hr2 0 (by omega)
        rw [List.getElem?_eq_getElem (by omega)] at this
        cases hc' : W.cells? 0 (a.add ((len + 0) * P.cellsOf e)) (P.cellsOf e) with
        | none => rw [hc'] at this; cases this
        | some cs => exact cells_plain hz (by subst hz0; simp) hc'
      · have := hel 0 hp
        rw [List.getElem?_eq_getElem (by omega)] at this
        cases hc' : W.cells? 0 (a.add (0 * P.cellsOf e)) (P.cellsOf e) with
        | none => rw [hc'] at this; cases this
        | some cs => exact cells_plain hz (by simp) hc'
    obtain ⟨us, xs, h1, h2, h3, h4, h5, _, h7⟩ := rd_elems (H := H) (enc := enc) (W := W) (m := n) he hz ha len fun i hi => ⟨elems[i]'(by omega), by rw [hel i hi]; simp⟩
    refine ⟨.slice (some a) len cap, .sl xs, rfl, ?_, ⟨xs, rfl, by rw [← h2.length, h1]; omega, h7⟩, rfl, by simp [Value.oneCell']⟩
    rw [addr_plain ha]
    exact .sl h1 hl hc hz h3 h4 h5 h2

/-- the fields of a struct, in their order -/
def RdFs (P : Program) : List Field → Nat → List (PC → Prop) → Prop
  | [], _, [] => True
  | f :: fs, o, S :: Ss => f.offset = o ∧ RdC P f.type S ∧ RdFs P fs (o + P.cellsOf f.type) Ss
  | _, _, _ => False

def totF (P : Program) : List Field → Nat → Nat
  | [], o => o
  | f :: fs, o => totF P fs (o + P.cellsOf f.type)

theorem rep_cellsP {M : Mem} {u : Value} {x : PC} (h : Rep M u x) (hn : noTup x = true) (h1 : ∀ c ∈ u.cells.toList, c.oneCell' = true) : Reps M u.cells.toList (pcs x) := by
  cases h with
  | agg hs _ => exact hs
  | tup _ => cases hn
  | sc _ h1 => cases u <;> first | exact .cons (.sc _ rfl) .nil | cases h1
  | nil => exact .cons .nil .nil
  | nilsl => exact .cons .nilsl .nil
  | sl0 a => exact .cons (.sl0 a) .nil
  | sl a b c d e f g i => exact .cons (.sl a b c d e f g i) .nil
  | ref a b => exact .cons (.ref a b) .nil
  | fn a => exact .cons (.fn a) .nil

theorem rd_fields {H : Type} {enc : TypeId × Value → H} {W : World} {m : Nat} {cs : List Value} : ∀ (fs : List Field) (o : Nat) (Ss : List (PC → Prop)), RdFs P fs o Ss → totF P fs o = cs.length →
    (∀ f ∈ fs, ∃ y, DataW.trod enc P W 0 (fun _ => true) true m f.type ((cs.drop f.offset).take (P.cellsOf f.type)) = some y) →
    ∃ ys, all2 (fun S y => S y) Ss ys ∧ Reps (memOf W) (cs.drop o) (ys.flatMap pcs) ∧ ∀ c ∈ cs.drop o, c.oneCell' = true
  | [], o, [], _, ht, _ => by
    have : cs.drop o = [] := by rw [List.drop_eq_nil_iff]; exact Nat.le_of_eq (by simpa [totF] using ht.symm)
    exact ⟨[], trivial, by rw [this]; exact .nil, by rw [this]; simp⟩
  | f :: fs, o, S :: Ss, ⟨h1, h2, h3⟩, ht, hy => by
    obtain ⟨ys, k1, k2, k3⟩ := rd_fields fs _ Ss h3 (by simpa [totF] using ht) fun g hg => hy g (by simp [hg])
    obtain ⟨y, hf⟩ := hy f (by simp)
    rw [h1] at hf
    obtain ⟨u, x, j1, j2, j3, j4, j5⟩ := h2 H enc W m _ y hf
    have e : cs.drop o = (cs.drop o).take (P.cellsOf f.type) ++ cs.drop (o + P.cellsOf f.type) := by
      rw [← List.drop_drop, List.take_append_drop]
    refine ⟨x :: ys, ⟨j3, k1⟩, ?_, ?_⟩
    · rw [e, List.flatMap_cons]
      refine Reps.append ?_ k2
      rw [← j1]
      exact rep_cellsP j2 j4 (by rw [j1]; exact j5)
    · rw [e]; intro c hc; rcases List.mem_append.1 hc with hc | hc
      · exact j5 c hc
      · exact k3 c hc
  | [], _, _ :: _, h, _, _ => h.elim
  | _ :: _, _, [], h, _, _ => h.elim

theorem rd_struct {t : TypeId} {fs : Array Field} {Ss : List (PC → Prop)} (ht : P.underlying t = some (.struct fs)) (htot : totF P fs.toList 0 = P.cellsOf t) (hfs : RdFs P fs.toList 0 Ss) :
    RdC P t (fun x => ∃ ys, x = .agg false (ys.flatMap pcs) ∧ all2 (fun S y => S y) Ss ys) := fun H enc W fuel cs r hr => by
  obtain ⟨xs, n, rfl, rfl, hl, hn, hall⟩ := DataW.trod_struct ht hr
  obtain ⟨ys, k1, k2, k3⟩ := rd_fields (H := H) (enc := enc) (W := W) (m := n) fs.toList 0 Ss hfs (by rw [htot, hl]) fun f hf => by
    obtain ⟨i, hi⟩ := List.getElem?_of_mem hf
    have := hall i f (by simpa using hi)
    refine ⟨xs[i]'(by have := (List.getElem?_eq_some_iff.1 hi).1; simp at this; omega), ?_⟩
    rw [this]; simp
  refine ⟨.agg cs.toArray, .agg false (ys.flatMap pcs), by simp [Value.cells], .agg (by simpa using k2) (by simpa using k3), ⟨ys, rfl, k1⟩, rfl, by simpa using k3⟩

/-- Whatever argument reads by this type stands for such a value. -/
def RdV (P : Program) (t : TypeId) (S : PC → Prop) : Prop :=
  ∀ (H : Type) (enc : TypeId × Value → H) (W : World) (base : Nat) (v : Value) (d : DataW H) (p : List MemPlace), Value.okWide P W .any base t v → DataW.Trod enc P W 0 (fun _ => true) true t v d p → ∃ x, Rep (memOf W) v x ∧ S x

theorem rv_struct {t : TypeId} {fs : Array Field} {S : PC → Prop} (ht : P.underlying t = some (.struct fs)) (h : RdC P t S) (hS : ∀ x, S x → ∃ xs, x = .agg false xs) : RdV P t S := fun H enc W base v d p hv hd => by
  unfold Value.okWide at hv
  rw [ht] at hv
  obtain ⟨cs, rfl, _, ts, _, _, hrow⟩ := hv
  obtain ⟨fuel, hf⟩ := hd
  obtain ⟨u, x, h1, h2, h3, _⟩ := h H enc W fuel _ _ hf
  obtain ⟨xs, rfl⟩ := hS x h3
  refine ⟨_, ?_, h3⟩
  cases h2 with
  | agg hs ho =>
    have : Value.agg cs = .agg _ := congrArg Value.agg (Array.toList_inj.1 (show cs.toList = _ from h1.symm))
    rw [this]; exact .agg hs ho

theorem rds {H : Type} {enc : TypeId × Value → H} {W : World} {base : Nat} : ∀ {ts : List TypeId} {Ss : List (PC → Prop)} {vs : List Value} {ds : List (DataW H)} {p : List MemPlace}, all2 (fun t S => RdV P t S) ts Ss →
    (∀ (j : Nat) t v, ts[j]? = some t → vs[j]? = some v → Value.okWide P W .any base t v) → DataW.TrodAll enc P W 0 (fun _ => true) true ts vs ds p → ∃ xs, Reps (memOf W) vs xs ∧ all2 (fun S x => S x) Ss xs
  | [], [], vs, ds, p, _, _, h => by obtain ⟨rfl, rfl, rfl⟩ := trodAll_nil h; exact ⟨[], .nil, trivial⟩
  | t :: ts, S :: Ss, vs, ds, p, hR, hv, h => by
    obtain ⟨v, vs', d, ds', p1, q, rfl, rfl, rfl, h1, h2⟩ := trodAll_cons h
    obtain ⟨x, k1, k2⟩ := hR.1 H enc W base v d p1 (hv 0 t v rfl rfl) h1
    obtain ⟨xs, k3, k4⟩ := rds hR.2 (fun j t v ht hj => hv (j + 1) t v (by simpa using ht) (by simpa using hj)) h2
    exact ⟨x :: xs, .cons k1 k3, k2, k4⟩
  | [], _ :: _, _, _, _, h, _, _ => h.elim
  | _ :: _, [], _, _, _, h, _, _ => h.elim

theorem trodAll_below {H : Type} {enc : TypeId × Value → H} (hl : laidOutB P = true) {W W' : World} (hb : Below W.heap.size W W') {sp : Nat → Bool} : ∀ {ts : List TypeId} {vs : List Value} {ds : List (DataW H)} {p : List MemPlace},
    (ts.all fun t => P.readableRec t && decide (t < P.types.size)) = true → DataW.TrodAll enc P W 0 (fun _ => true) true ts vs ds p → (∀ x ∈ p, x.block < W.heap.size) → (∀ x ∈ p, sp x.block = true) → DataW.TrodAll enc P W' 0 sp true ts vs ds p
  | [], vs, ds, p, _, h, _, _ => by obtain ⟨rfl, rfl, rfl⟩ := trodAll_nil h; rfl
  | t :: ts, vs, ds, p, hr, h, hlt, hsp => by
    obtain ⟨v, vs', d, ds', p1, q, rfl, rfl, rfl, h1, h2⟩ := trodAll_cons h
    simp only [List.all_cons, Bool.and_eq_true, decide_eq_true_eq] at hr
    exact trodAll_cons_mk (WideElems.Trod_stays hl hr.1.1 hr.1.2 h1 (fun x hx => hb.same (hlt x (by simp [hx]))) (fun x hx => hsp x (by simp [hx])))
      (trodAll_below hl hb (by simpa using hr.2) h2 (fun x hx => hlt x (by simp [hx])) (fun x hx => hsp x (by simp [hx])))

theorem all2_1 {S : PC → Prop} {xs : List PC} (h : all2 (fun (S : PC → Prop) x => S x) [S] xs) : ∃ x, xs = [x] ∧ S x := by
  cases xs with
  | nil => exact h.elim
  | cons x xs => cases xs with
    | nil => exact ⟨x, rfl, h.1⟩
    | cons y xs => exact h.2.elim
theorem all2_c {S : PC → Prop} {Ss : List (PC → Prop)} {xs : List PC} (h : all2 (fun (S : PC → Prop) x => S x) (S :: Ss) xs) : ∃ x ys, xs = x :: ys ∧ S x ∧ all2 (fun (S : PC → Prop) x => S x) Ss ys := by
  cases xs with
  | nil => exact h.elim
  | cons x xs => exact ⟨x, xs, rfl, h.1, h.2⟩
theorem all2_2 {S T : PC → Prop} {xs : List PC} (h : all2 (fun (S : PC → Prop) x => S x) [S, T] xs) : ∃ x y, xs = [x, y] ∧ S x ∧ T y := by
  obtain ⟨x, ys, rfl, h1, h2⟩ := all2_c h
  obtain ⟨y, rfl, h3⟩ := all2_1 h2
  exact ⟨x, y, rfl, h1, h3⟩
theorem all2_3 {S T U : PC → Prop} {xs : List PC} (h : all2 (fun (S : PC → Prop) x => S x) [S, T, U] xs) : ∃ x y z, xs = [x, y, z] ∧ S x ∧ T y ∧ U z := by
  obtain ⟨x, ys, rfl, h1, h2⟩ := all2_c h
  obtain ⟨y, z, rfl, h3, h4⟩ := all2_2 h2
  exact ⟨x, y, z, rfl, h1, h3, h4⟩
/-- A law that only computes, and whose answer is true, as its row has it. -/
theorem law_contract {f : FuncId} {fn : Func} {s : ChangeSpec} {Ss : List (PC → Prop)} {tr : TypeId} {apart fresh handsOn again : Bool} (hl : laidOutB P = true) (hr : (fn.params.toList.all fun t => P.readableRec t && decide (t < P.types.size)) = true)
    (hres : fn.resultTypes = #[tr]) (htr : P.underlying tr = some .bool) (hvars : s.vars = []) (hR : all2 (fun t S => RdV P t S) fn.params.toList Ss)
    (hspec : ∀ (H : Type) (ds : List (DataW H)), ds.length = fn.params.size → s.fn H ds = { results := [.lit (.bool true)], args := ds })
    (hp : ∀ xs, all2 (fun S x => S x) Ss xs → PureC P f xs (.bool true)) (H : Type) (enc : TypeId × Value → H) (W : World) (base : Nat) (args : Array Value) (ds gs : List (DataW H)) (before : List MemPlace)
    (hval : ∀ (j : Nat) t v, fn.params[j]? = some t → args[j]? = some v → Value.okWide P W .any base t v)
    (hW : DataW.Whole enc P fn.params.toList s.vars apart W args.toList ds gs before) (hg : GOk (memOf W)) :
    Calls P f args W fun e W' => ∃ v, e = .returned v ∧ s.post enc P fn apart fresh handsOn again W args v W' := by
  have hW' := hW
  obtain ⟨p, q, hA, hV, rfl, hfz, hnd⟩ := hW
  rw [hvars] at hV
  obtain ⟨rfl, rfl⟩ := trodVars_none hV
  have hlt : ∀ x ∈ p, x.block < W.heap.size := fun x hx => hW'.lt x (by simp [hx])
  obtain ⟨xs, k1, k2⟩ := rds hR (fun j t v ht hj => hval j t v (by simpa using ht) (by simpa using hj)) hA
  have hlen : ds.length = fn.params.size := by
    have : ∀ {ts : List TypeId} {vs : List Value} {ds : List (DataW H)} {p : List MemPlace}, DataW.TrodAll enc P W 0 (fun _ => true) true ts vs ds p → ds.length = ts.length := by
      intro ts
      induction ts with
      | nil => intro vs ds p h; obtain ⟨rfl, rfl, rfl⟩ := trodAll_nil h; rfl
      | cons t ts ih => intro vs ds p h; obtain ⟨v, vs', d, ds', p1, q, rfl, rfl, rfl, h1, h2⟩ := trodAll_cons h; simp [ih h2]
    simpa using this hA
  refine ((hp xs k2).2 (memOf W) W args.toList ⟨fun _ _ _ h => h, hg⟩ k1).mono fun e W' => ?_
  rintro ⟨v, N, rfl, hv, _, _, _, hb⟩
  obtain rfl : v = .bool true := by cases hv; rfl
  refine ⟨_, rfl, ?_⟩
  have hsp := hspec H (ds ++ []) (by simpa using hlen)
  have hold : ∀ x ∈ p ++ [], (fun b => decide (b < W.heap.size)) x.block = true := fun x hx => by simpa using hlt x (by simpa using hx)
  have hres0 : ∀ (b : Nat) (sp : Nat → Bool) (hd : Bool), DataW.TrodAll enc P W' b sp hd fn.resultTypes.toList ((Value.bool true).resultList fn.resultTypes.size) (s.fn H (ds ++ [])).results [] := fun b sp hd => by
    rw [hsp, hres]; exact trodAll_cons_mk (shut_bool htr true) trodAll_mk0
  have hargs0 : ∀ sp : Nat → Bool, (∀ x ∈ p ++ [], sp x.block = true) → DataW.TrodAll enc P W' 0 sp true fn.params.toList args.toList (s.fn H (ds ++ [])).args p := fun sp h => by
    rw [hsp]; simpa using trodAll_below hl hb hr hA hlt fun x hx => h x (by simp [hx])
  have hv0 : ∀ sp : Nat → Bool, DataW.TrodVars enc P W' sp s.vars (s.fn H (ds ++ [])).vars [] := fun sp => by rw [hsp, hvars]; rfl
  refine ⟨ds, [], p ++ [], [], p, [], hW', hres0 _ _ _, hargs0 _ hold, hv0 _, World.keptBut_mono (fun x hx => ⟨hx, Or.inr (by simpa using hx)⟩) (hb.frame (· ∈ p ++ [])), fun _ => ?_⟩
  refine ⟨ok_one (by rw [hres]) rfl (okWide_bool_mk htr true), _, _, ([] ++ p) ++ [], ⟨[] ++ p, [], trodAll_append (hargs0 _ (fun _ _ => rfl)) (hres0 _ _ _), hv0 _, rfl, ?_, ?_⟩, ?_⟩
  · intro b off hx
    have hx' : MemPlace.cell b off ∈ p := by simpa using hx
    rw [hb.frozen (p := ⟨b, off, none⟩) (hlt _ hx')]
    exact hfz b off (by simpa using hx')
  · intro ha
    simpa using hnd ha
  · intro x hx _
    simpa using hx
end
end Go.Av

/-! part AvLaw2 -/
namespace Go.Av
open Go.RowKit Go.ChangeShapes Go.WideShapes Go.ChangeAt
section
variable {P : Program}
end
end Go.Av
