/- An abstract interpreter over the program's form, with the proof that it is sound: part Ef. Own work. It holds for any program that the model takes. -/
import Derived.Test.YtffoncjofjgojaaGreatDoorEe
set_option linter.all false
/-! part AvLoop -/
namespace Go.Av
open Go.RowKit

@[simp] theorem mkSl_nil : mkSl [] = fun _ => .any := (rfl)
@[simp] theorem mkSl_cons {k : Nat} {v : AV} {l : List (Nat × AV)} : mkSl ((k, v) :: l) = upd (mkSl l) k v := (rfl)
@[simp] theorem initSl_nil {k : Nat} : initSl [] k = fun _ => .any := (rfl)
@[simp] theorem initSl_cons {k : Nat} {x : AV} {l : List AV} : initSl (x :: l) k = upd (initSl l (k + 1)) k x := (rfl)
@[simp] theorem initS_mk {xs : List AV} {tb : Tb} : initS xs tb = ⟨initSl xs 0, tb⟩ := (rfl)

@[simp] theorem leL_nil {rn : List (Nat × Nat)} {m : Nat} {f : Nat → AV} : leL rn m f [] = True := (rfl)
@[simp] theorem leL_cons {rn : List (Nat × Nat)} {m : Nat} {f : Nat → AV} {k : Nat} {v : AV} {l : List (Nat × AV)} : leL rn m f ((k, v) :: l) = ((f k).to (v.ren (rnF rn)) ∧ v.lim m = true ∧ leL rn m f l) := (rfl)
section
variable {ρ : Nat → Nat} {m : Nat}
@[simp] theorem ren_p {x : PC} : AV.ren ρ (.p x) = .p x := (rfl)
@[simp] theorem ren_obj {i o : Nat} : AV.ren ρ (.obj i o) = .obj (ρ i) o := (rfl)
@[simp] theorem ren_own {i : Nat} {xs : List PC} : AV.ren ρ (.own i xs) = .own (ρ i) xs := (rfl)
@[simp] theorem ren_full {xs : List PC} : AV.ren ρ (.full xs) = .full xs := (rfl)
@[simp] theorem ren_view {i o n s : Nat} {c : Option Nat} : AV.ren ρ (.view i o n s c) = .view (ρ i) o n s c := (rfl)
@[simp] theorem rens_nil : AV.ren.rens ρ [] = [] := (rfl)
@[simp] theorem rens_cons {x : AV} {l : List AV} : AV.ren.rens ρ (x :: l) = x.ren ρ :: AV.ren.rens ρ l := (rfl)
@[simp] theorem lim_p {x : PC} : AV.lim m (.p x) = true := (rfl)
@[simp] theorem lim_obj {i o : Nat} : AV.lim m (.obj i o) = decide (i < m) := (rfl)
@[simp] theorem lim_own {i : Nat} {xs : List PC} : AV.lim m (.own i xs) = decide (i < m) := (rfl)
@[simp] theorem lim_full {xs : List PC} : AV.lim m (.full xs) = true := (rfl)
@[simp] theorem lim_view {i o n s : Nat} {c : Option Nat} : AV.lim m (.view i o n s c) = decide (i < m) := (rfl)
@[simp] theorem lims_nil : AV.lim.lims m [] = true := (rfl)
@[simp] theorem lims_cons {x : AV} {l : List AV} : AV.lim.lims m (x :: l) = (x.lim m && AV.lim.lims m l) := (rfl)
end
def rnG (i : Nat) : Option Nat → Nat
  | some j => j
  | none => i
@[simp] theorem rnF_w {rn : List (Nat × Nat)} {i : Nat} : rnF rn i = rnG i (lk i rn) := by unfold rnF rnG; cases lk i rn <;> rfl
@[simp] theorem rnG_some {i j : Nat} : rnG i (some j) = j := (rfl)
@[simp] theorem rnG_none {i : Nat} : rnG i none = i := (rfl)
@[simp] theorem renB_nil {ρ : Nat → Nat} {m : Nat} {bx : List (Nat × Ob)} : renB ρ m bx [] = True := (rfl)
@[simp] theorem renB_cons {ρ : Nat → Nat} {m : Nat} {bx : List (Nat × Ob)} {i : Nat} {el : TypeId} {sz : Nat} {xs : List AV} {l : List (Nat × Ob)} : renB ρ m bx ((i, ⟨el, sz, xs⟩) :: l) = (i < m ∧ AV.lim.lims m xs = true ∧ renX (lk (ρ i) bx) ⟨el, sz, AV.ren.rens ρ xs⟩ ∧ renB ρ m bx l) := (rfl)
@[simp] theorem renX_some {el el' : TypeId} {sz sz' : Nat} {xs ys : List AV} : renX (some ⟨el, sz, xs⟩) ⟨el', sz', ys⟩ = (el = el' ∧ sz = sz' ∧ ys <+: xs) := (rfl)
@[congr] theorem renX_congr {a b : Option Ob} {o : Ob} (h : a = b) : renX a o = renX b o := by rw [h]
@[simp] theorem renR_nil {ρ : Nat → Nat} {m : Nat} {rw : List (Nat × TypeId × Nat)} : renR ρ m rw [] = True := (rfl)
@[simp] theorem renR_cons {ρ : Nat → Nat} {m : Nat} {rw : List (Nat × TypeId × Nat)} {i : Nat} {r : TypeId × Nat} {l : List (Nat × TypeId × Nat)} : renR ρ m rw ((i, r) :: l) = (i < m ∧ lk (ρ i) rw = some r ∧ renR ρ m rw l) := (rfl)
@[simp] theorem injL_nil {α : Type} {ρ : Nat → Nat} : injL ρ ([] : List (Nat × α)) = True := (rfl)
@[simp] theorem injL_cons {α : Type} {ρ : Nat → Nat} {i : Nat} {r : α} {l : List (Nat × α)} : injL ρ ((i, r) :: l) = (injL.injAt ρ i l ∧ injL ρ l) := (rfl)
@[simp] theorem injAt_nil {α : Type} {ρ : Nat → Nat} {i : Nat} : injL.injAt ρ i ([] : List (Nat × α)) = True := (rfl)
@[simp] theorem injAt_cons {α : Type} {ρ : Nat → Nat} {i j : Nat} {r : α} {l : List (Nat × α)} : injL.injAt ρ i ((j, r) :: l) = ((i = j ∨ ρ i ≠ ρ j) ∧ injL.injAt ρ i l) := (rfl)
@[simp] theorem renOk_w {nx0 : Nat} {rn : List (Nat × Nat)} {tb tb' : Tb} : renOk nx0 rn tb tb' = ((∀ p ∈ rn, nx0 ≤ p.1) ∧ nx0 ≤ tb'.nx ∧ renB (rnF rn) tb'.nx tb.bx tb'.bx ∧ renR (rnF rn) tb'.nx tb.rw tb'.rw ∧ injL (rnF rn) tb'.bx ∧ injL (rnF rn) tb'.rw) := (rfl)
@[simp] theorem RGen_w {nx0 : Nat} {rs zs : List AV} {tb tb' : Tb} : RGen nx0 rs tb' zs tb = ∃ rn, renOk nx0 rn tb tb' ∧ toAll zs (AV.ren.rens (rnF rn) rs) ∧ AV.lim.lims tb'.nx rs = true := (rfl)

section
variable {P : Program} {cx : Cx} {Q : Exit → AS → Prop} {st : AS} {c : Code}

/-- the state after a round is one of the next -/
def leN (nx0 : Nat) (st : AS) (l : List (Nat × AV)) (tb : Tb) : Prop := ∃ rn, renOk nx0 rn st.tb tb ∧ leL rn tb.nx st.sl l

/-- what a round hands on -/
def loopK {α : Type} (cx : Cx) (C : α → Prop) (S : α → List (Nat × AV)) (T : α → Tb) (μ : α → Nat) (m : Nat) (Q : Exit → AS → Prop) : Exit → AS → Prop := fun e st' => match e with
    | .normal => ∃ a', C a' ∧ μ a' < m ∧ leN cx.nx0 st' (S a') (T a')
    | e => Q e st'
section
variable {α : Type} {C : α → Prop} {S : α → List (Nat × AV)} {T : α → Tb} {μ : α → Nat} {m : Nat}
@[simp] theorem loopK_n : loopK cx C S T μ m Q .normal st = ∃ a', C a' ∧ μ a' < m ∧ leN cx.nx0 st (S a') (T a') := (rfl)
@[simp] theorem loopK_e {i : Nat} : loopK cx C S T μ m Q (.exit i) st = Q (.exit i) st := (rfl)
@[simp] theorem loopK_r : loopK cx C S T μ m Q .ret st = Q .ret st := (rfl)
end

theorem leN_of {nx0 : Nat} {l : List (Nat × AV)} {tb : Tb} (rn : List (Nat × Nat)) (h : renOk nx0 rn st.tb tb ∧ leL rn tb.nx st.sl l) : leN nx0 st l tb := ⟨rn, h⟩
/-- .. with the names as they are -/
theorem leN_id {nx0 : Nat} {l : List (Nat × AV)} {tb : Tb} (h : renOk nx0 [] st.tb tb ∧ leL [] tb.nx st.sl l) : leN nx0 st l tb := ⟨[], h⟩

theorem aw_loop {α : Type} (C : α → Prop) (S : α → List (Nat × AV)) (T : α → Tb) (μ : α → Nat) (a0 : α) (hc : C a0) (st0 : AS) (hst : st.le cx.nx0 st0) (h0 : leN cx.nx0 st0 (S a0) (T a0))
    (h : ∀ a, C a → aw P cx c (mkS (S a) (T a)) (loopK cx C S T μ (μ a) Q)) : aw P cx (.loop c) st Q := by
  obtain ⟨rn, h1, h2⟩ := h0
  refine ⟨fun n st' => ∃ a, C a ∧ μ a = n ∧ st' = mkS (S a) (T a), fun n => loopK cx C S T μ n Q, μ a0, ⟨_, hst.trans (le_ren rn h1 h2), a0, hc, rfl, rfl⟩, ?_, ?_⟩
  · rintro n _ ⟨a, ha, rfl, rfl⟩; exact h a ha
  · intro n e st' hq
    cases e with
    | normal => obtain ⟨a', h1, h2, rn, h3, h4⟩ := hq; exact ⟨_, _, h2, le_ren rn h3 h4, a', h1, rfl, rfl⟩
    | _ => exact hq

/-- a loop that touches nothing of its own but slots -/
theorem aw_loop0 {α : Type} (C : α → Prop) (S : α → List (Nat × AV)) (μ : α → Nat) (a0 : α) (hc : C a0) (h0 : leN cx.nx0 st (S a0) ⟨[], [], cx.nx0⟩)
    (h : ∀ a, C a → aw P cx c (mkS (S a) ⟨[], [], cx.nx0⟩) (loopK cx C S (fun _ => ⟨[], [], cx.nx0⟩) μ (μ a) Q)) : aw P cx (.loop c) st Q :=
  aw_loop C S (fun _ => ⟨[], [], cx.nx0⟩) μ a0 hc st (AS.le_refl _ _) h0 h

end
end Go.Av

/-! part AvGen -/
namespace Go.Av
open Go.RowKit

section
variable {P : Program} {f : FuncId} {xs : List AV} {tb tb' tb'' : Tb} {r r' : AV}

theorem reps_repVs {g : G} {vs : List Value} {ys : List PC} (h : Reps g.M vs ys) : RepVs g vs (ys.map .p) := reps_p h

/-- A FUNCTION THAT TAKES WHAT LASTS, AND MAKES SOMETHING OF ITS OWN: it may be taken to last. -/
theorem pure_of_gen {xs : List PC} {r : AV} {y : PC} (h : GenC P f (xs.map .p) ⟨[], [], 0⟩ r tb') (hy : borF tb'.bx 4 r y) : PureC P f xs y := by
  refine ⟨h.1, fun M w vs hH hvs => ?_⟩
  have hw : SatW w M (fun _ => False) ⟨[], [], 0⟩ ⟨M, fun _ => none, fun _ => none⟩ w := by
    refine ⟨hH, Keep.refl _ _, fun _ _ _ => rfl, Mem.le_refl _, ?_, ?_, ?_, ?_, ?_, ?_⟩
    · intro i o e; simp [lk] at e
    · intro i el sz e; simp [lk] at e
    · intro i j o p b c b' c' e; simp [lk] at e
    · intro i j o p u v b e; simp [lk] at e
    · intro i j o p b c v e; simp [lk] at e
    · intro i _; exact ⟨rfl, rfl⟩
  refine (h.2 ⟨M, fun _ => none, fun _ => none⟩ w vs (fun _ => False) hw (reps_repVs (g := ⟨M, fun _ => none, fun _ => none⟩) hvs)).mono ?_
  rintro e w' ⟨v, g', rfl, hle, hS, hr⟩
  have hold : ∀ b o v, M b o = some v → b < w.heap.size := fun b o v e => hH.lt e
  have hMo : ∀ b, b < w.heap.size → g'.M b = M b := fun b hb => hS.old b hb (fun h => h)
  refine ⟨v, fun b o => if b < w.heap.size then M b o else w'.cell? ⟨b, o, none⟩, rfl, borF_repN hS ?_ ?_ 4 v r y hr hy, ?_, ?_, ?_, ?_⟩
  · intro b o v e
    show (if b < w.heap.size then _ else _) = _
    split
    · rename_i hb; rw [← hMo b hb]; exact e
    · exact hS.holds b o v e
  · intro id ob b c hl hg hc o v e
    obtain ⟨cur, f2, _⟩ := (hS.boxes id ob hl).real hg hc
    rcases f2 with f2 | f2
    · show (if b < w.heap.size then _ else _) = _
      rw [if_neg (by omega)]; exact e
    · exact f2.elim
  · refine ⟨?_, hH.g.mono fun b o v e => by
      show (if b < w.heap.size then _ else _) = _
      rw [if_pos (hold b o v e)]; exact e⟩
    intro b o v e
    have e : (if b < w.heap.size then M b o else w'.cell? ⟨b, o, none⟩) = some v := e
    split at e
    · rename_i hb; rw [← hMo b hb] at e; exact hS.holds b o v e
    · exact e
  · intro b o v e
    show (if b < w.heap.size then _ else _) = _
    rw [if_pos (hold b o v e)]; exact e
  · intro b hb
    funext o
    show (if b < w.heap.size then _ else _) = _
    rw [if_pos hb]
  · exact ⟨hS.keep.os, hS.keep.tape, hS.keep.output, hS.keep.size, fun k hk => hS.keep.block k hk (fun h => h)⟩

end

@[simp] theorem natCast_lt_zero {k : Nat} : ((k : Int) < 0) = False := by simp only [eq_iff_iff, iff_false]; omega

/-! names -/
@[simp] theorem ne_s2 {n : Nat} : (n = n + 1 + 1) = False := by simp only [eq_iff_iff, iff_false]; omega
@[simp] theorem ne_t2 {n : Nat} : (n + 1 + 1 = n) = False := by simp only [eq_iff_iff, iff_false]; omega
@[simp] theorem lt_s2 {n : Nat} : (n < n + 1 + 1) = True := by simp only [eq_iff_iff, iff_true]; omega
@[simp] theorem le_s2 {n : Nat} : (n ≤ n + 1 + 1) = True := by simp only [eq_iff_iff, iff_true]; omega
@[simp] theorem ne_s3 {n : Nat} : (n = n + 1 + 1 + 1) = False := by simp only [eq_iff_iff, iff_false]; omega
@[simp] theorem ne_t3 {n : Nat} : (n + 1 + 1 + 1 = n) = False := by simp only [eq_iff_iff, iff_false]; omega
@[simp] theorem lt_s3 {n : Nat} : (n < n + 1 + 1 + 1) = True := by simp only [eq_iff_iff, iff_true]; omega
@[simp] theorem le_s3 {n : Nat} : (n ≤ n + 1 + 1 + 1) = True := by simp only [eq_iff_iff, iff_true]; omega
@[simp] theorem ne_s4 {n : Nat} : (n = n + 1 + 1 + 1 + 1) = False := by simp only [eq_iff_iff, iff_false]; omega
@[simp] theorem ne_t4 {n : Nat} : (n + 1 + 1 + 1 + 1 = n) = False := by simp only [eq_iff_iff, iff_false]; omega
@[simp] theorem lt_s4 {n : Nat} : (n < n + 1 + 1 + 1 + 1) = True := by simp only [eq_iff_iff, iff_true]; omega
@[simp] theorem le_s4 {n : Nat} : (n ≤ n + 1 + 1 + 1 + 1) = True := by simp only [eq_iff_iff, iff_true]; omega
@[simp] theorem ne_s5 {n : Nat} : (n = n + 1 + 1 + 1 + 1 + 1) = False := by simp only [eq_iff_iff, iff_false]; omega
@[simp] theorem ne_t5 {n : Nat} : (n + 1 + 1 + 1 + 1 + 1 = n) = False := by simp only [eq_iff_iff, iff_false]; omega
@[simp] theorem lt_s5 {n : Nat} : (n < n + 1 + 1 + 1 + 1 + 1) = True := by simp only [eq_iff_iff, iff_true]; omega
@[simp] theorem le_s5 {n : Nat} : (n ≤ n + 1 + 1 + 1 + 1 + 1) = True := by simp only [eq_iff_iff, iff_true]; omega
@[simp] theorem ne_s6 {n : Nat} : (n = n + 1 + 1 + 1 + 1 + 1 + 1) = False := by simp only [eq_iff_iff, iff_false]; omega
@[simp] theorem ne_t6 {n : Nat} : (n + 1 + 1 + 1 + 1 + 1 + 1 = n) = False := by simp only [eq_iff_iff, iff_false]; omega
@[simp] theorem lt_s6 {n : Nat} : (n < n + 1 + 1 + 1 + 1 + 1 + 1) = True := by simp only [eq_iff_iff, iff_true]; omega
@[simp] theorem le_s6 {n : Nat} : (n ≤ n + 1 + 1 + 1 + 1 + 1 + 1) = True := by simp only [eq_iff_iff, iff_true]; omega
@[simp] theorem ne_s7 {n : Nat} : (n = n + 1 + 1 + 1 + 1 + 1 + 1 + 1) = False := by simp only [eq_iff_iff, iff_false]; omega
@[simp] theorem ne_t7 {n : Nat} : (n + 1 + 1 + 1 + 1 + 1 + 1 + 1 = n) = False := by simp only [eq_iff_iff, iff_false]; omega
@[simp] theorem lt_s7 {n : Nat} : (n < n + 1 + 1 + 1 + 1 + 1 + 1 + 1) = True := by simp only [eq_iff_iff, iff_true]; omega
@[simp] theorem le_s7 {n : Nat} : (n ≤ n + 1 + 1 + 1 + 1 + 1 + 1 + 1) = True := by simp only [eq_iff_iff, iff_true]; omega

/-! rows' cells under other names -/
section
variable {ρ : Nat → Nat} {m : Nat}
@[simp] theorem rens_append {a b : List AV} : AV.ren.rens ρ (a ++ b) = AV.ren.rens ρ a ++ AV.ren.rens ρ b := by
  induction a with
  | nil => rfl
  | cons x a ih => simp [AV.ren.rens, ih]
@[simp] theorem rens_p {l : List PC} : AV.ren.rens ρ (l.map .p) = l.map .p := by
  induction l with
  | nil => rfl
  | cons x a ih => simp [ih]
@[simp] theorem rens_pf {α : Type} {f : α → PC} {l : List α} : AV.ren.rens ρ (l.map fun x => .p (f x)) = l.map fun x => .p (f x) := by
  induction l with
  | nil => rfl
  | cons x a ih => simp [ih]
@[simp] theorem rens_pc {α : Type} {f : α → PC} {l : List α} : AV.ren.rens ρ (l.map (AV.p ∘ f)) = l.map (AV.p ∘ f) := rens_pf (f := f)
@[simp] theorem lims_pc {α : Type} {f : α → PC} {l : List α} : AV.lim.lims m (l.map (AV.p ∘ f)) = true := by
  induction l with
  | nil => rfl
  | cons x a ih => simp [ih]
@[simp] theorem lims_append {a b : List AV} : AV.lim.lims m (a ++ b) = (AV.lim.lims m a && AV.lim.lims m b) := by
  induction a with
  | nil => simp
  | cons x a ih => simp [ih, Bool.and_assoc]
@[simp] theorem lims_p {l : List PC} : AV.lim.lims m (l.map .p) = true := by
  induction l with
  | nil => rfl
  | cons x a ih => simp [ih]
end

/-- a value's cells -/
def pcs : PC → List PC
  | .agg false xs => xs
  | x => [x]
theorem pcCells_pcs (x : PC) : pcCells x = (pcs x).map .p := by
  cases x with
  | agg b l => cases b <;> rfl
  | _ => rfl
@[simp] theorem flat_pcs {xs : List PC} : xs.flatMap pcCells = (xs.flatMap pcs).map .p := by
  induction xs with
  | nil => rfl
  | cons x xs ih => simp [ih, pcCells_pcs]
end Go.Av

/-! part AvNm -/
namespace Go.Av
open Go.RowKit

/-- the names 0, 1, .. stand for those of the list; the ones behind them for n, n + 1, .. -/
def rnN : List Nat → Nat → Nat → Nat
  | [], n, i => n + i
  | j :: _, _, 0 => j
  | _ :: l, n, i + 1 => rnN l n i
/-- .. and back -/
def rnI : List Nat → Nat → Nat → Option Nat
  | [], n, j => if n ≤ j then some (j - n) else none
  | i :: l, n, j => if j = i then some 0 else (rnI l n j).map (· + 1)

theorem rnN_ge : ∀ (l : List Nat) (n i : Nat), l.length ≤ i → rnN l n i = n + (i - l.length)
  | [], n, i, _ => by simp [rnN]
  | _ :: l, n, 0, h => by simp at h
  | _ :: l, n, i + 1, h => by
    simp only [List.length_cons] at h ⊢
    rw [rnN, rnN_ge l n i (by omega)]; omega
theorem rnN_lt : ∀ (l : List Nat) (n i : Nat), i < l.length → rnN l n i ∈ l
  | [], n, i, h => by simp at h
  | j :: l, n, 0, h => by simp [rnN]
  | j :: l, n, i + 1, h => by
    simp only [List.length_cons] at h
    exact List.mem_cons_of_mem _ (rnN_lt l n i (by omega))
theorem rnI_rnN : ∀ (l : List Nat) (n : Nat), l.Nodup → (∀ j ∈ l, j < n) → ∀ i, rnI l n (rnN l n i) = some i
  | [], n, _, _, i => by simp [rnN, rnI]
  | j :: l, n, hn, hl, 0 => by simp [rnN, rnI]
  | j :: l, n, hn, hl, i + 1 => by
    have hn := List.nodup_cons.1 hn
    have ih := rnI_rnN l n hn.2 (fun k hk => hl k (List.mem_cons_of_mem _ hk)) i
    have hne : rnN l n i ≠ j := by
      rcases Nat.lt_or_ge i l.length with h | h
      · intro e; exact hn.1 (e ▸ rnN_lt l n i h)
      · rw [rnN_ge l n i h]; have := hl j (by simp); omega
    show (if rnN l n i = j then some 0 else (rnI l n (rnN l n i)).map (· + 1)) = some (i + 1)
    rw [if_neg hne, ih]; rfl
theorem rnN_rnI : ∀ (l : List Nat) (n j i : Nat), rnI l n j = some i → rnN l n i = j
  | [], n, j, i, h => by
    simp only [rnI] at h
    split at h
    · injection h with h; subst h; simp only [rnN]; omega
    · cases h
  | k :: l, n, j, i, h => by
    simp only [rnI] at h
    split at h
    · rename_i e; injection h with h; subst h; subst e; rfl
    · cases h2 : rnI l n j with
      | none => rw [h2] at h; cases h
      | some i' => rw [h2] at h; simp at h; subst h; exact rnN_rnI l n j i' h2

def renBx (ρ : Nat → Nat) : List (Nat × Ob) → List (Nat × Ob)
  | [] => []
  | (i, o) :: l => (ρ i, { o with xs := AV.ren.rens ρ o.xs }) :: renBx ρ l
def renRw (ρ : Nat → Nat) : List (Nat × TypeId × Nat) → List (Nat × TypeId × Nat)
  | [] => []
  | (i, r) :: l => (ρ i, r) :: renRw ρ l
def Tb.ren (ρ : Nat → Nat) (tb : Tb) : Tb := ⟨renBx ρ tb.bx, renRw ρ tb.rw, ρ tb.nx⟩

theorem lk_renBx {ρ : Nat → Nat} (hρ : ∀ i j, ρ i = ρ j → i = j) {i : Nat} {o : Ob} : ∀ {l : List (Nat × Ob)}, lk i l = some o → lk (ρ i) (renBx ρ l) = some { o with xs := AV.ren.rens ρ o.xs }
  | [], h => by simp [lk] at h
  | (j, p) :: l, h => by
    simp only [lk] at h
    simp only [renBx, lk]
    split at h
    · rename_i e; subst e; injection h with h; subst h; rw [if_pos rfl]
    · rename_i e; rw [if_neg (fun h => e (hρ _ _ h))]; exact lk_renBx hρ h
theorem lk_renRw {ρ : Nat → Nat} (hρ : ∀ i j, ρ i = ρ j → i = j) {i : Nat} {o : TypeId × Nat} : ∀ {l : List (Nat × TypeId × Nat)}, lk i l = some o → lk (ρ i) (renRw ρ l) = some o
  | [], h => by simp [lk] at h
  | (j, p) :: l, h => by
    simp only [lk] at h
    simp only [renRw, lk]
    split at h
    · rename_i e; subst e; injection h with h; subst h; rw [if_pos rfl]
    · rename_i e; rw [if_neg (fun h => e (hρ _ _ h))]; exact lk_renRw hρ h
theorem lk_renBx' {ρ : Nat → Nat} {j : Nat} {q : Ob} : ∀ {l : List (Nat × Ob)}, lk j (renBx ρ l) = some q → ∃ i o, j = ρ i ∧ q = { o with xs := AV.ren.rens ρ o.xs } ∧ (∀ hρ : ∀ i j, ρ i = ρ j → i = j, lk i l = some o)
  | [], h => by simp [renBx, lk] at h
  | (k, p) :: l, h => by
    simp only [renBx, lk] at h
    split at h
    · rename_i e; injection h with h; exact ⟨k, p, e, h.symm, fun _ => by simp [lk]⟩
    · rename_i e
      obtain ⟨i, o, h1, h2, h3⟩ := lk_renBx' h
      refine ⟨i, o, h1, h2, fun hρ => ?_⟩
      simp only [lk]; rw [if_neg (fun e' => e (by rw [h1, e']))]; exact h3 hρ
theorem lk_renRw' {ρ : Nat → Nat} {j : Nat} {q : TypeId × Nat} : ∀ {l : List (Nat × TypeId × Nat)}, lk j (renRw ρ l) = some q → ∃ i, j = ρ i ∧ (∀ hρ : ∀ i j, ρ i = ρ j → i = j, lk i l = some q)
  | [], h => by simp [renRw, lk] at h
  | (k, p) :: l, h => by
    simp only [renRw, lk] at h
    split at h
    · rename_i e; injection h with h; subst h; exact ⟨k, e, fun _ => by simp [lk]⟩
    · rename_i e
      obtain ⟨i, h1, h3⟩ := lk_renRw' h
      refine ⟨i, h1, fun hρ => ?_⟩
      simp only [lk]; rw [if_neg (fun e' => e (by rw [h1, e']))]; exact h3 hρ

/-- places by their other names -/
def G.pull (g : G) (ρ : Nat → Nat) : G := ⟨g.M, fun i => g.ob (ρ i), fun i => g.rv (ρ i)⟩

mutual
theorem repV_pull {g : G} {ρ : Nat → Nat} : ∀ {v : Value} (x : AV), RepV g v (x.ren ρ) → RepV (g.pull ρ) v x
  | v, .p y, h => by simp only [AV.ren] at h; cases h with | p h1 => exact .p h1
  | v, .obj id off, h => by simp only [AV.ren] at h; cases h with | obj e => exact .obj e
  | v, .own id xs, h => by simp only [AV.ren] at h; cases h with | own e hr => exact .own e hr
  | v, .full xs, h => by simp only [AV.ren] at h; cases h with | full hr => exact .full hr
  | v, .nn xs, h => by simp only [AV.ren] at h; cases h with | nn hr => exact .nn hr
  | v, .view id o n s c, h => by simp only [AV.ren] at h; cases h with | view e h1 h2 h3 h4 => exact .view (g := g.pull ρ) e h1 h2 h3 h4
  | v, .agg t xs, h => by
    simp only [AV.ren] at h
    cases h with
    | agg hs h1 => exact .agg (repVs_pull xs hs) h1
    | tup hs => exact .tup (repVs_pull xs hs)
  | v, .clo f xs, h => by
    simp only [AV.ren] at h
    cases h with
    | clo hs => exact .clo (repVs_pull xs hs)
  | v, .ifc t x, h => by
    simp only [AV.ren] at h
    cases h with
    | ifc h1 => exact .ifc (repV_pull x h1)
  | v, .any, _ => .any v
theorem repVs_pull {g : G} {ρ : Nat → Nat} : ∀ {vs : List Value} (xs : List AV), RepVs g vs (AV.ren.rens ρ xs) → RepVs (g.pull ρ) vs xs
  | _, [], h => by simp only [AV.ren.rens] at h; cases h; exact .nil
  | _, x :: xs, h => by
    simp only [AV.ren.rens] at h
    cases h with | cons h1 hs => exact .cons (repV_pull x h1) (repVs_pull xs hs)
end

/-- the other way round -/
structure Push (g' g'' : G) (ρ : Nat → Nat) : Prop where
  M : g''.M = g'.M
  ob : ∀ i, g''.ob (ρ i) = g'.ob i
  rv : ∀ i, g''.rv (ρ i) = g'.rv i
mutual
theorem repV_push {g' g'' : G} {ρ : Nat → Nat} (hp : Push g' g'' ρ) : ∀ {v : Value} (x : AV), RepV g' v x → RepV g'' v (x.ren ρ)
  | v, .p y, h => by cases h with | p h1 => exact .p (hp.M ▸ h1)
  | v, .obj id off, h => by cases h with | obj e => exact .obj ((hp.ob _).trans e)
  | v, .own id xs, h => by cases h with | own e hr => exact .own ((hp.rv _).trans e) (hp.M ▸ hr)
  | v, .full xs, h => by cases h with | full hr => exact .full (hp.M ▸ hr)
  | v, .nn xs, h => by cases h with | nn hr => exact .nn (hp.M ▸ hr)
  | v, .view id o n s c, h => by cases h with | view e h1 h2 h3 h4 => exact .view ((hp.ob _).trans e) h1 h2 h3 h4
  | v, .agg t xs, h => by
    cases h with
    | agg hs h1 => exact .agg (repVs_push hp xs hs) h1
    | tup hs => exact .tup (repVs_push hp xs hs)
  | v, .clo f xs, h => by
    cases h with
    | clo hs => exact .clo (repVs_push hp xs hs)
  | v, .ifc t x, h => by
    cases h with
    | ifc h1 => exact .ifc (repV_push hp x h1)
  | v, .any, _ => .any v
theorem repVs_push {g' g'' : G} {ρ : Nat → Nat} (hp : Push g' g'' ρ) : ∀ {vs : List Value} (xs : List AV), RepVs g' vs xs → RepVs g'' vs (AV.ren.rens ρ xs)
  | _, [], h => by cases h; exact .nil
  | _, x :: xs, h => by cases h with | cons h1 hs => exact .cons (repV_push hp x h1) (repVs_push hp xs hs)
end

section
variable {w0 : World} {M0 : Mem} {F : Nat → Prop} {tb : Tb} {g : G} {w : World}
theorem SatW.pull {ρ : Nat → Nat} (hρ : ∀ i j, ρ i = ρ j → i = j) (hge : ∀ i, tb.nx ≤ i → ρ tb.nx ≤ ρ i) (h : SatW w0 M0 F (tb.ren ρ) g w) : SatW w0 M0 F tb (g.pull ρ) w := by
  refine ⟨h.holds, h.keep, h.old, h.mle, fun i o e => ?_, fun i el sz e => ?_, fun i j o p b c b' c' ei ej hij e1 e2 p1 p2 => ?_, fun i j r s u v b ei ej hij e1 e2 e3 => ?_, fun i j o r b c v ei ej e1 e2 p1 => ?_, fun i hi => ?_⟩
  · obtain ⟨b, c, f1, fr, f0⟩ := h.boxes _ _ (lk_renBx hρ e)
    refine ⟨b, c, f1, fun hp => ?_, fun hz => ?_⟩
    · obtain ⟨cur, f2, f3, f4, f5, f6, f7, f8, f9⟩ := fr hp
      simp only [rens_length] at f7 f8
      exact ⟨cur, f2, f3, f4, f5, f6, f7, repVs_pull _ f8, f9⟩
    · have := congrArg List.length (f0 hz)
      simp only [rens_length] at this
      exact List.eq_nil_of_length_eq_zero this
  · obtain ⟨v, f1, f2⟩ := h.rows _ _ _ (lk_renRw hρ e)
    exact ⟨v, f1, f2⟩
  · exact h.ob_ne _ _ _ _ b c b' c' (lk_renBx hρ ei) (lk_renBx hρ ej) (fun e => hij (hρ _ _ e)) e1 e2 p1 p2
  · exact h.rw_ne _ _ _ _ u v b (lk_renRw hρ ei) (lk_renRw hρ ej) (fun e => hij (hρ _ _ e)) e1 e2 e3
  · exact h.ob_rw _ _ _ _ b c v (lk_renBx hρ ei) (lk_renRw hρ ej) e1 e2 p1
  · exact h.fresh (ρ i) (hge i hi)
theorem SatW.push {g' g'' : G} {ρ : Nat → Nat} (hρ : ∀ i j, ρ i = ρ j → i = j) (hp : Push g' g'' ρ) (hge : ∀ j, ρ tb.nx ≤ j → ∃ i, tb.nx ≤ i ∧ j = ρ i) (h : SatW w0 M0 F tb g' w) : SatW w0 M0 F (tb.ren ρ) g'' w := by
  have hM := hp.M
  have hbx : ∀ {j q}, lk j (tb.ren ρ).bx = some q → ∃ i o, j = ρ i ∧ q = { o with xs := AV.ren.rens ρ o.xs } ∧ lk i tb.bx = some o := fun e => by
    obtain ⟨i, o, h1, h2, h3⟩ := lk_renBx' e
    exact ⟨i, o, h1, h2, h3 hρ⟩
  have hrw : ∀ {j q}, lk j (tb.ren ρ).rw = some q → ∃ i, j = ρ i ∧ lk i tb.rw = some q := fun e => by
    obtain ⟨i, h1, h3⟩ := lk_renRw' e
    exact ⟨i, h1, h3 hρ⟩
  refine ⟨hM ▸ h.holds, h.keep, hM ▸ h.old, hM ▸ h.mle, fun i o e => ?_, fun i el sz e => ?_, fun i j o p b c b' c' ei ej hij e1 e2 p1 p2 => ?_, fun i j r s u v b ei ej hij e1 e2 e3 => ?_, fun i j o r b c v ei ej e1 e2 p1 => ?_, fun j hj => ?_⟩
  · obtain ⟨i', o', rfl, rfl, k⟩ := hbx e
    obtain ⟨b, c, f1, fr, f0⟩ := h.boxes _ _ k
    refine ⟨b, c, (hp.ob _).trans f1, fun hp' => ?_, fun hz => by simp only [f0 hz]; rfl⟩
    obtain ⟨cur, f2, f3, f4, f5, f6, f7, f8, f9⟩ := fr hp'
    refine ⟨cur, f2, fun off => by rw [hM]; exact f3 off, f4, f5, f6, by simpa only [rens_length] using f7, ?_, f9⟩
    simp only [rens_length]
    exact repVs_push hp _ f8
  · obtain ⟨i', rfl, k⟩ := hrw e
    obtain ⟨v, f1, f2⟩ := h.rows _ _ _ k
    exact ⟨v, (hp.rv _).trans f1, by rw [hM]; exact f2⟩
  · obtain ⟨i', o', rfl, rfl, ki⟩ := hbx ei
    obtain ⟨j', p', rfl, rfl, kj⟩ := hbx ej
    exact h.ob_ne _ _ _ _ b c b' c' ki kj (fun e => hij (by rw [e])) ((hp.ob _).symm.trans e1) ((hp.ob _).symm.trans e2) p1 p2
  · obtain ⟨i', rfl, ki⟩ := hrw ei
    obtain ⟨j', rfl, kj⟩ := hrw ej
    exact h.rw_ne _ _ _ _ u v b ki kj (fun e => hij (by rw [e])) ((hp.rv _).symm.trans e1) ((hp.rv _).symm.trans e2) e3
  · obtain ⟨i', o', rfl, rfl, ki⟩ := hbx ei
    obtain ⟨j', rfl, kj⟩ := hrw ej
    exact h.ob_rw _ _ _ _ b c v ki kj ((hp.ob _).symm.trans e1) ((hp.rv _).symm.trans e2) p1
  · obtain ⟨i, h1, rfl⟩ := hge j hj
    rw [hp.ob, hp.rv]; exact h.fresh i h1
end

/-- A CONTRACT, UNDER OTHER NAMES: its own 0, 1, .. are the caller's of the list. -/
theorem gen_ren {P : Program} {f : FuncId} {xs : List AV} {r : AV} {tb tb' : Tb} (h : GenC P f xs tb r tb') (rn : List Nat) (n : Nat) (hl : rn.length = tb.nx) (hm : tb.nx ≤ tb'.nx) (hnd : rn.Nodup) (hlt : ∀ j ∈ rn, j < n) :
    GenC P f (AV.ren.rens (rnN rn n) xs) (tb.ren (rnN rn n)) (r.ren (rnN rn n)) (tb'.ren (rnN rn n)) := by
  have inj : ∀ i j, rnN rn n i = rnN rn n j → i = j := fun i j e => by
    have h1 := rnI_rnN rn n hnd hlt i
    rw [e, rnI_rnN rn n hnd hlt j] at h1
    injection h1 with h1; exact h1.symm
  have hnx : rnN rn n tb.nx = n := by rw [rnN_ge _ _ _ (by omega)]; omega
  refine ⟨h.1, fun g w vs F hw hvs => ?_⟩
  have hpull := hw.pull (tb := tb) inj (fun i hi => by rw [hnx, rnN_ge _ _ _ (by omega)]; omega)
  refine (h.2 (g.pull (rnN rn n)) w vs F hpull (repVs_pull _ hvs)).mono ?_
  rintro e w' ⟨v, g', rfl, h1, h2, h3⟩
  let g'' : G := ⟨g'.M, fun j => match rnI rn n j with | some i => g'.ob i | none => g.ob j, fun j => match rnI rn n j with | some i => g'.rv i | none => g.rv j⟩
  have hp : Push g' g'' (rnN rn n) := ⟨rfl, fun i => by show (match rnI rn n (rnN rn n i) with | some i => g'.ob i | none => g.ob _) = _; rw [rnI_rnN rn n hnd hlt i], fun i => by show (match rnI rn n (rnN rn n i) with | some i => g'.rv i | none => g.rv _) = _; rw [rnI_rnN rn n hnd hlt i]⟩
  refine ⟨v, g'', rfl, ⟨h1.M, fun j p e => ?_, fun j p e => ?_⟩, h2.push inj hp ?_, repV_push hp _ h3⟩
  · show (match rnI rn n j with | some i => g'.ob i | none => g.ob j) = _
    cases hj : rnI rn n j with
    | none => exact e
    | some i => exact h1.ob i p (by show g.ob (rnN rn n i) = _; rw [rnN_rnI _ _ _ _ hj]; exact e)
  · show (match rnI rn n j with | some i => g'.rv i | none => g.rv j) = _
    cases hj : rnI rn n j with
    | none => exact e
    | some i => exact h1.rv i p (by show g.rv (rnN rn n i) = _; rw [rnN_rnI _ _ _ _ hj]; exact e)
  · intro j hj
    rw [rnN_ge _ _ _ (by omega)] at hj
    refine ⟨rn.length + (j - n), by omega, ?_⟩
    rw [rnN_ge _ _ _ (by omega)]; omega

@[simp] theorem rnN_nil {n i : Nat} : rnN [] n i = n + i := (rfl)
@[simp] theorem rnN_zero {j n : Nat} {l : List Nat} : rnN (j :: l) n 0 = j := (rfl)
@[simp] theorem rnN_succ {j n i : Nat} {l : List Nat} : rnN (j :: l) n (i + 1) = rnN l n i := (rfl)
@[simp] theorem renBx_nil {ρ : Nat → Nat} : renBx ρ [] = [] := (rfl)
@[simp] theorem renBx_cons {ρ : Nat → Nat} {i sz : Nat} {el : TypeId} {xs : List AV} {l : List (Nat × Ob)} : renBx ρ ((i, ⟨el, sz, xs⟩) :: l) = (ρ i, ⟨el, sz, AV.ren.rens ρ xs⟩) :: renBx ρ l := (rfl)
@[simp] theorem renRw_nil {ρ : Nat → Nat} : renRw ρ [] = [] := (rfl)
@[simp] theorem renTb_mk {ρ : Nat → Nat} {bx : List (Nat × Ob)} {rw : List (Nat × TypeId × Nat)} {nx : Nat} : Tb.ren ρ ⟨bx, rw, nx⟩ = ⟨renBx ρ bx, renRw ρ rw, ρ nx⟩ := (rfl)
section
variable {P : Program} {tb : Tb} {kt : AV → Tb → Prop}
/-- a call of a function whose contract has names of its own, 0, 1, ..: they stand for those of the list -/
theorem rcall_of {gf : FuncId} {ys l : List AV} {ts ts' : Tb} {r : AV} (rn : List Nat) (h : GenC P gf ys ts r ts') (hs : rn.length = ts.nx ∧ ts.nx ≤ ts'.nx ∧ rn.Nodup ∧ ∀ j ∈ rn, j < tb.nx)
    (hl : toAll l (AV.ren.rens (rnN rn tb.nx) ys)) (hb : sub1 tb.bx (renBx (rnN rn tb.nx) ts.bx)) (hr : sub1 tb.rw (renRw (rnN rn tb.nx) ts.rw)) (hk : kt (r.ren (rnN rn tb.nx)) (tb.merge (ts.ren (rnN rn tb.nx)) (ts'.ren (rnN rn tb.nx)))) : callP P gf [] l tb kt :=
  gcall_of0 (gen_ren h rn tb.nx hs.1 hs.2.1 hs.2.2.1 hs.2.2.2) hl hb hr (by show rnN rn tb.nx ts.nx = tb.nx; rw [rnN_ge _ _ _ (by omega)]; omega) hk
end
end Go.Av

/-! part AvSpl -/
namespace Go.Av

end Go.Av

/-! part AvPub2 -/
namespace Go.Av
open Go.RowKit

section
variable {P : Program} {f : FuncId} {xs : List AV} {tb tb' tb'' : Tb} {r r' : AV}

end
end Go.Av

/-! part AvVoid -/
namespace Go.Av
open Go.RowKit
section
variable {w0 : World} {M0 : Mem} {F : Nat → Prop} {tb : Tb} {g : G} {w : World}
end
section
variable {w0 : World} {M0 : Mem} {F : Nat → Prop} {tb : Tb} {g : G} {w : World}
end
section
variable {P : Program} {f : FuncId} {xs : List AV} {tb tb' : Tb} {r : AV}
end
@[simp] theorem allP_obj {i o : Nat} {l : List AV} : allP (.obj i o :: l) = none := (rfl)
end Go.Av
