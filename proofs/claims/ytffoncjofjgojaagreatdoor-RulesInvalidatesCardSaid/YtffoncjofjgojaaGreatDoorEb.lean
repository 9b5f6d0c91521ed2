/- An abstract interpreter over the program's form, with the proof that it is sound: part Eb. Own work. It holds for any program that the model takes. -/
import Derived.Test.YtffoncjofjgojaaGreatDoorEa
import Derived.Laws.StructEq
import Derived.ChangeKeysEq
import Derived.Lib.SliceRun
import Derived.Laws.Pointers
import Derived.WalkSpells
import Derived.Laws.MakeOwn
import Derived.Laws.Externs
set_option linter.all false
/-! part AvRen -/
namespace Go.Av
open Go.RowKit

def AV.ren (ρ : Nat → Nat) : AV → AV
  | .obj id off => .obj (ρ id) off
  | .own id xs => .own (ρ id) xs
  | .agg t xs => .agg t (rens xs)
  | .clo f xs => .clo f (rens xs)
  | .ifc t x => .ifc t (x.ren ρ)
  | .p x => .p x
  | .full xs => .full xs
  | .nn xs => .nn xs
  | .view id o n s c => .view (ρ id) o n s c
  | .any => .any
where rens : List AV → List AV
  | [] => []
  | x :: l => x.ren ρ :: rens l

def AV.lim (m : Nat) : AV → Bool
  | .obj id _ => decide (id < m)
  | .own id _ => decide (id < m)
  | .view id _ _ _ _ => decide (id < m)
  | .agg _ xs => lims xs
  | .clo _ xs => lims xs
  | .ifc _ x => x.lim m
  | _ => true
where lims : List AV → Bool
  | [] => true
  | x :: l => x.lim m && lims l

def G.ren (g : G) (ρ : Nat → Nat) (m : Nat) : G := ⟨g.M, fun i => if i < m then g.ob (ρ i) else none, fun i => if i < m then g.rv (ρ i) else none⟩

mutual
theorem repV_ren {g : G} {ρ : Nat → Nat} {m : Nat} : ∀ {v : Value} (x : AV), RepV g v (x.ren ρ) → x.lim m = true → RepV (g.ren ρ m) v x
  | v, .p y, h, _ => by simp only [AV.ren] at h; cases h with | p h1 => exact .p h1
  | v, .obj id off, h, hl => by
    simp only [AV.ren] at h; simp only [AV.lim, decide_eq_true_eq] at hl
    cases h with | obj e => exact .obj (by simp only [G.ren]; rw [if_pos hl]; exact e)
  | v, .own id xs, h, hl => by
    simp only [AV.ren] at h; simp only [AV.lim, decide_eq_true_eq] at hl
    cases h with | own e hr => exact .own (by simp only [G.ren]; rw [if_pos hl]; exact e) hr
  | v, .full xs, h, _ => by simp only [AV.ren] at h; cases h with | full hr => exact .full hr
  | v, .nn xs, h, _ => by simp only [AV.ren] at h; cases h with | nn hr => exact .nn hr
  | v, .view id o n s c, h, hl => by
    simp only [AV.ren] at h; simp only [AV.lim, decide_eq_true_eq] at hl
    cases h with | view e h1 h2 h3 h4 => exact .view (by simp only [G.ren]; rw [if_pos hl]; exact e) h1 h2 h3 h4
  | v, .agg t xs, h, hl => by
    simp only [AV.ren] at h; simp only [AV.lim] at hl
    cases h with
    | agg hs h1 => exact .agg (repVs_ren xs hs hl) h1
    | tup hs => exact .tup (repVs_ren xs hs hl)
  | v, .clo f xs, h, hl => by
    simp only [AV.ren] at h; simp only [AV.lim] at hl
    cases h with
    | clo hs => exact .clo (repVs_ren xs hs hl)
  | v, .ifc t x, h, hl => by
    simp only [AV.ren] at h; simp only [AV.lim] at hl
    cases h with
    | ifc h1 => exact .ifc (repV_ren x h1 hl)
  | v, .any, _, _ => .any v
theorem repVs_ren {g : G} {ρ : Nat → Nat} {m : Nat} : ∀ {vs : List Value} (xs : List AV), RepVs g vs (AV.ren.rens ρ xs) → AV.lim.lims m xs = true → RepVs (g.ren ρ m) vs xs
  | _, [], h, _ => by simp only [AV.ren.rens] at h; cases h; exact .nil
  | _, x :: xs, h, hl => by
    simp only [AV.ren.rens] at h; simp only [AV.lim.lims, Bool.and_eq_true] at hl
    cases h with | cons h1 hs => exact .cons (repV_ren x h1 hl.1) (repVs_ren xs hs hl.2)
end

theorem rens_length {ρ : Nat → Nat} : ∀ (xs : List AV), (AV.ren.rens ρ xs).length = xs.length
  | [] => rfl
  | _ :: l => by simp [AV.ren.rens, rens_length l]

section
variable {w0 : World} {M0 : Mem} {F : Nat → Prop} {tb : Tb} {g : G} {w : World}

/-- less is known of it -/
def renX : Option Ob → Ob → Prop
  | some p, o => p.el = o.el ∧ p.sz = o.sz ∧ o.xs <+: p.xs
  | none, _ => False

/-- the boxes, under their other names -/
def renB (ρ : Nat → Nat) (m : Nat) (bx : List (Nat × Ob)) : List (Nat × Ob) → Prop
  | [] => True
  | (i, o) :: l => i < m ∧ AV.lim.lims m o.xs = true ∧ renX (lk (ρ i) bx) { o with xs := AV.ren.rens ρ o.xs } ∧ renB ρ m bx l
def renR (ρ : Nat → Nat) (m : Nat) (rw : List (Nat × TypeId × Nat)) : List (Nat × TypeId × Nat) → Prop
  | [] => True
  | (i, r) :: l => i < m ∧ lk (ρ i) rw = some r ∧ renR ρ m rw l
def injL {α : Type} (ρ : Nat → Nat) : List (Nat × α) → Prop
  | [] => True
  | (i, _) :: l => injAt i l ∧ injL ρ l
where injAt (i : Nat) : List (Nat × α) → Prop
  | [] => True
  | (j, _) :: l => (i = j ∨ ρ i ≠ ρ j) ∧ injAt i l

theorem renB_lk {ρ : Nat → Nat} {m : Nat} {bx : List (Nat × Ob)} {i : Nat} {o : Ob} : ∀ (l : List (Nat × Ob)), renB ρ m bx l → lk i l = some o → i < m ∧ AV.lim.lims m o.xs = true ∧ ∃ p, lk (ρ i) bx = some p ∧ p.el = o.el ∧ p.sz = o.sz ∧ AV.ren.rens ρ o.xs <+: p.xs
  | [], _, h => by simp [lk] at h
  | (j, p) :: l, hr, h => by
    simp only [lk] at h
    split at h
    · rename_i e; subst e; injection h with h; subst h
      have h3 := hr.2.2.1
      cases hp : lk (ρ i) bx with
      | none => rw [hp] at h3; exact h3.elim
      | some p => rw [hp] at h3; exact ⟨hr.1, hr.2.1, p, rfl, h3.1, h3.2.1, h3.2.2⟩
    · exact renB_lk l hr.2.2.2 h
theorem renR_lk {ρ : Nat → Nat} {m : Nat} {rw : List (Nat × TypeId × Nat)} {i : Nat} {r : TypeId × Nat} : ∀ (l : List (Nat × TypeId × Nat)), renR ρ m rw l → lk i l = some r → i < m ∧ lk (ρ i) rw = some r
  | [], _, h => by simp [lk] at h
  | (j, p) :: l, hr, h => by
    simp only [lk] at h
    split at h
    · rename_i e; subst e; injection h with h; subst h; exact ⟨hr.1, hr.2.1⟩
    · exact renR_lk l hr.2.2 h
theorem injAt_lk {α : Type} {ρ : Nat → Nat} {i j : Nat} {o : α} : ∀ (l : List (Nat × α)), injL.injAt ρ i l → lk j l = some o → i = j ∨ ρ i ≠ ρ j
  | [], _, h => by simp [lk] at h
  | (k, p) :: l, hr, h => by
    simp only [lk] at h
    split at h
    · rename_i e; subst e; exact hr.1
    · exact injAt_lk l hr.2 h
theorem injL_lk {α : Type} {ρ : Nat → Nat} {i j : Nat} {o p : α} : ∀ (l : List (Nat × α)), injL ρ l → lk i l = some o → lk j l = some p → i ≠ j → ρ i ≠ ρ j
  | [], _, h, _, _ => by simp [lk] at h
  | (k, q) :: l, hr, h1, h2, hij => by
    simp only [lk] at h1 h2
    split at h1
    · rename_i e; subst e
      rw [if_neg (fun h => hij h.symm)] at h2
      exact (injAt_lk l hr.1 h2).resolve_left hij
    · split at h2
      · rename_i e; subst e
        exact fun h => ((injAt_lk l hr.1 h1).resolve_left fun h => hij h.symm) h.symm
      · exact injL_lk l hr.2 h1 h2 hij

theorem SatW.ren (h : SatW w0 M0 F tb g w) {ρ : Nat → Nat} {tb' : Tb} (hb : renB ρ tb'.nx tb.bx tb'.bx) (hr : renR ρ tb'.nx tb.rw tb'.rw) (ib : injL ρ tb'.bx) (ir : injL ρ tb'.rw) : SatW w0 M0 F tb' (g.ren ρ tb'.nx) w := by
  have ob_of : ∀ i p, (g.ren ρ tb'.nx).ob i = some p → g.ob (ρ i) = some p := fun i p e => by
    simp only [G.ren] at e; split at e
    · exact e
    · cases e
  have rv_of : ∀ i p, (g.ren ρ tb'.nx).rv i = some p → g.rv (ρ i) = some p := fun i p e => by
    simp only [G.ren] at e; split at e
    · exact e
    · cases e
  refine ⟨h.holds, h.keep, h.old, h.mle, fun i o e => ?_, fun i el sz e => ?_, fun i j o p b c b' c' ei ej hij e1 e2 p1 p2 => ?_, fun i j r s u v b ei ej hij e1 e2 e3 => ?_, fun i j o r b c v ei ej e1 e2 p1 => ?_, fun i hi => ?_⟩
  · obtain ⟨h1, h2, p, h3, q1, q2, q3⟩ := renB_lk _ hb e
    obtain ⟨b, c, f1, fr, f0⟩ := h.boxes _ _ h3
    have hlen := q3.length_le
    simp only [rens_length] at hlen
    refine ⟨b, c, by simp only [G.ren]; rw [if_pos h1]; exact f1, fun hp => ?_, fun hz => ?_⟩
    · obtain ⟨cur, f2, f3, f4, f5, f6, f7, f8, f9⟩ := fr hp
      refine ⟨cur, f2, f3, by rw [← q1]; exact f4, by rw [← q2]; exact f5, f6, by omega, repVs_ren _ ?_ h2, f9⟩
      have e1 : (p.xs.take o.xs.length) = AV.ren.rens ρ o.xs := by
        obtain ⟨t, ht⟩ := q3
        rw [← ht, List.take_append_of_le_length (by simp [rens_length]), List.take_of_length_le (by simp [rens_length])]
      have := f8.take o.xs.length
      rw [List.take_take, Nat.min_eq_left hlen, e1] at this; exact this
    · rw [f0 hz] at hlen
      exact List.eq_nil_of_length_eq_zero (by simpa using hlen)
  · obtain ⟨h1, h2⟩ := renR_lk _ hr e
    obtain ⟨v, f1, f2⟩ := h.rows _ _ _ h2
    exact ⟨v, by simp only [G.ren]; rw [if_pos h1]; exact f1, f2⟩
  · obtain ⟨_, _, _, h3, _⟩ := renB_lk _ hb ei
    obtain ⟨_, _, _, h4, _⟩ := renB_lk _ hb ej
    exact h.ob_ne _ _ _ _ b c b' c' h3 h4 (injL_lk _ ib ei ej hij) (ob_of _ _ e1) (ob_of _ _ e2) p1 p2
  · obtain ⟨_, h3⟩ := renR_lk _ hr ei
    obtain ⟨_, h4⟩ := renR_lk _ hr ej
    exact h.rw_ne _ _ _ _ u v b h3 h4 (injL_lk _ ir ei ej hij) (rv_of _ _ e1) (rv_of _ _ e2) e3
  · obtain ⟨_, _, _, h3, _⟩ := renB_lk _ hb ei
    obtain ⟨_, h4⟩ := renR_lk _ hr ej
    exact h.ob_rw _ _ _ _ b c v h3 h4 (ob_of _ _ e1) (rv_of _ _ e2) p1
  · simp only [G.ren]; rw [if_neg (by omega), if_neg (by omega)]; exact ⟨rfl, rfl⟩

theorem G.le_ren {g0 g : G} {ρ : Nat → Nat} {m nx0 : Nat} (h : g0.le g) (h0 : ∀ i, nx0 ≤ i → g0.ob i = none ∧ g0.rv i = none) (hm : nx0 ≤ m) (hρ : ∀ i, i < nx0 → ρ i = i) : g0.le (g.ren ρ m) := by
  refine ⟨h.M, fun i p e => ?_, fun i v e => ?_⟩
  · have hi : i < nx0 := Nat.lt_of_not_le fun hle => by rw [(h0 i hle).1] at e; cases e
    simp only [G.ren]; rw [if_pos (by omega), hρ i hi]; exact h.ob _ _ e
  · have hi : i < nx0 := Nat.lt_of_not_le fun hle => by rw [(h0 i hle).2] at e; cases e
    simp only [G.ren]; rw [if_pos (by omega), hρ i hi]; exact h.rv _ _ e

/-! ### a part of it, and back -/

/-- the part is there -/
def sub1 {α : Type} (bx : List (Nat × α)) : List (Nat × α) → Prop
  | [] => True
  | (i, o) :: l => lk i bx = some o ∧ sub1 bx l

theorem sub1_lk {α : Type} {bx : List (Nat × α)} {i : Nat} {o : α} : ∀ (l : List (Nat × α)), sub1 bx l → lk i l = some o → lk i bx = some o
  | [], _, h => by simp [lk] at h
  | (j, p) :: l, hr, h => by
    simp only [lk] at h
    split at h
    · rename_i e; subst e; injection h with h; subst h; exact hr.1
    · exact sub1_lk l hr.2 h

def delAll {α : Type} : List (Nat × α) → List (Nat × α) → List (Nat × α)
  | [], l => l
  | (i, _) :: s, l => del i (delAll s l)

theorem lk_delAll {α : Type} {i : Nat} {o : α} : ∀ (s l : List (Nat × α)), lk i (delAll s l) = some o → lk i s = none ∧ lk i l = some o
  | [], l, h => ⟨rfl, h⟩
  | (j, p) :: s, l, h => by
    simp only [delAll, lk_del] at h
    split at h
    · cases h
    · rename_i hne
      obtain ⟨h1, h2⟩ := lk_delAll s l h
      exact ⟨by simp only [lk]; rw [if_neg hne]; exact h1, h2⟩

theorem lk_append {α : Type} {i : Nat} {o : α} : ∀ (s l : List (Nat × α)), lk i (s ++ l) = some o → lk i s = some o ∨ lk i l = some o
  | [], l, h => .inr h
  | (j, p) :: s, l, h => by
    simp only [List.cons_append, lk] at h ⊢
    split at h
    · rename_i e; rw [if_pos e]; exact .inl h
    · rename_i e; rw [if_neg e]; exact lk_append s l h

def Tb.merge (tb ts ts' : Tb) : Tb := ⟨ts'.bx ++ delAll ts.bx tb.bx, ts'.rw ++ delAll ts.rw tb.rw, ts'.nx⟩

/-- the blocks of a part -/
def Fof (g : G) (ts : Tb) : Nat → Prop := fun b => (∃ id o c, lk id ts.bx = some o ∧ g.ob id = some (b, c) ∧ 0 < c) ∨ ∃ id r v, lk id ts.rw = some r ∧ g.rv id = some v ∧ rowBlock v = some b

theorem SatW.part (h : SatW w0 M0 F tb g w) {ts : Tb} (hb : sub1 tb.bx ts.bx) (hr : sub1 tb.rw ts.rw) (hn : ts.nx = tb.nx) : SatW w g.M (Fof g ts) ts g w := by
  refine ⟨h.holds, Keep.refl _ _, fun _ _ _ => rfl, Mem.le_refl _, fun i o e => ?_, fun i el sz e => ?_, fun i j o p b c b' c' ei ej hij e1 e2 p1 p2 => ?_, fun i j r s u v b ei ej hij e1 e2 e3 => ?_, fun i j o r b c v ei ej e1 e2 p1 => ?_, fun i hi => h.fresh i (by omega)⟩
  · obtain ⟨b, c, f1, fr, f0⟩ := h.boxes _ _ (sub1_lk _ hb e)
    refine ⟨b, c, f1, fun hp => ?_, f0⟩
    obtain ⟨cur, f2, f3, f4, f5, f6, f7, f8, f9⟩ := fr hp
    exact ⟨cur, .inr (.inl ⟨i, o, c, e, f1, hp⟩), f3, f4, f5, f6, f7, f8, f9⟩
  · obtain ⟨v, f1, f2⟩ := h.rows _ _ _ (sub1_lk _ hr e)
    refine ⟨v, f1, f2.imp (fun h => h) ?_⟩
    rintro ⟨b, n, cap, cur, h3, h4, h5, h6, h7, h8, h9, h10, h11⟩
    exact ⟨b, n, cap, cur, h3, .inr (.inr ⟨i, _, v, e, f1, by subst h3; exact rowBlock_lt h7⟩), h5, h6, h7, h8, h9, h10, h11⟩
  · exact h.ob_ne i j o p b c b' c' (sub1_lk _ hb ei) (sub1_lk _ hb ej) hij e1 e2 p1 p2
  · exact h.rw_ne i j r s u v b (sub1_lk _ hr ei) (sub1_lk _ hr ej) hij e1 e2 e3
  · exact h.ob_rw i j o r b c v (sub1_lk _ hb ei) (sub1_lk _ hr ej) e1 e2 p1

theorem SatW.back (h : SatW w0 M0 F tb g w) {ts ts' : Tb} {g' : G} {w' : World} (hb : sub1 tb.bx ts.bx) (hr : sub1 tb.rw ts.rw) (hle : g.le g') (k : SatW w g.M (Fof g ts) ts' g' w') :
    SatW w0 M0 F (tb.merge ts ts') g' w' := by
  have hF : ∀ b, Fof g ts b → w0.heap.size ≤ b ∨ F b := fun b hf => by
    rcases hf with ⟨id, o, c, e, e1, hp⟩ | ⟨id, r, v, e, e1, e2⟩
    · obtain ⟨cur, f2, _⟩ := (h.boxes _ _ (sub1_lk _ hb e)).real e1 hp
      exact f2
    · obtain ⟨v', f1, f2⟩ := h.rows _ r.1 r.2 (sub1_lk _ hr e)
      rw [e1] at f1; injection f1 with f1; subst f1
      rcases f2 with ⟨a, n, rfl⟩ | ⟨b', n, cap, cur, rfl, f3, f4, f5, f6, _⟩
      · rw [rowBlock_full] at e2; cases e2
      · rw [rowBlock_lt f6] at e2; injection e2 with e2; subst e2; exact f3
  -- what is left apart has blocks of its own
  have hbx : ∀ i o b c, lk i (delAll ts.bx tb.bx) = some o → g'.ob i = some (b, c) → 0 < c → lk i tb.bx = some o ∧ g.ob i = some (b, c) ∧ b < w.heap.size ∧ ¬ Fof g ts b := fun i o b c e e1 hp => by
    obtain ⟨d1, d2⟩ := lk_delAll _ _ e
    obtain ⟨b', c', f1, fr, _⟩ := h.boxes _ _ d2
    have := hle.ob _ _ f1
    rw [e1] at this; injection this with this; injection this with t1 t2; subst t1; subst t2
    obtain ⟨cur, f2, f3, ⟨tt, fz, f4, fo⟩, _⟩ := fr hp
    refine ⟨d2, f1, heap_lt f4, ?_⟩
    rintro (⟨j, p, c', ej, e2, hp'⟩ | ⟨j, r, v, ej, e2, e3⟩)
    · exact h.ob_ne i j _ _ b c b c' d2 (sub1_lk _ hb ej) (fun hij => by subst hij; rw [d1] at ej; cases ej) f1 e2 hp hp' rfl
    · exact h.ob_rw i j _ _ b c v d2 (sub1_lk _ hr ej) f1 e2 hp e3
  have hrw : ∀ i r v, lk i (delAll ts.rw tb.rw) = some r → g'.rv i = some v → lk i tb.rw = some r ∧ g.rv i = some v ∧ ∀ b, rowBlock v = some b → b < w.heap.size ∧ ¬ Fof g ts b := fun i r v e e1 => by
    obtain ⟨d1, d2⟩ := lk_delAll _ _ e
    obtain ⟨v', f1, _⟩ := h.rows _ r.1 r.2 d2
    have := hle.rv _ _ f1
    rw [e1] at this; injection this with this; subst this
    refine ⟨d2, f1, fun b hv => ⟨h.rw_lt d2 f1 hv, ?_⟩⟩
    rintro (⟨j, p, c', ej, e2, hp'⟩ | ⟨j, s, u, ej, e2, e3⟩)
    · exact h.ob_rw j i _ _ b c' v (sub1_lk _ hb ej) d2 e2 f1 hp' hv
    · exact h.rw_ne i j _ _ v u b d2 (sub1_lk _ hr ej) (fun hij => by subst hij; rw [d1] at ej; cases ej) f1 e2 hv e3
  have kbx : ∀ i o b c, lk i ts'.bx = some o → g'.ob i = some (b, c) → 0 < c → w.heap.size ≤ b ∨ Fof g ts b := fun i o b c e e1 hp => by
    obtain ⟨cur, f2, _⟩ := (k.boxes _ _ e).real e1 hp
    exact f2
  have krw : ∀ i r v b, lk i ts'.rw = some r → g'.rv i = some v → rowBlock v = some b → w.heap.size ≤ b ∨ Fof g ts b := fun i r v b e e1 e2 => by
    obtain ⟨v', f1, f2⟩ := k.rows _ r.1 r.2 e
    rw [e1] at f1; injection f1 with f1; subst f1
    rcases f2 with ⟨a, n, rfl⟩ | ⟨b', n, cap, cur, rfl, f3, f4, f5, f6, _⟩
    · rw [rowBlock_full] at e2; cases e2
    · rw [rowBlock_lt f6] at e2; injection e2 with e2; subst e2; exact f3
  have hsz := h.keep.size
  have up : ∀ b, (w.heap.size ≤ b ∨ Fof g ts b) → w0.heap.size ≤ b ∨ F b := fun b hb => hb.elim (fun hb => .inl (by omega)) (hF b)
  have apart : ∀ b b', b < w.heap.size ∧ ¬ Fof g ts b → (w.heap.size ≤ b' ∨ Fof g ts b') → b ≠ b' := fun b b' h1 h2 e => by
    subst e; rcases h2 with h2 | h2
    · omega
    · exact h1.2 h2
  refine ⟨k.holds, h.keep.trans k.keep fun b hb hf => ?_, fun b hb hf => ?_, h.mle.trans hle.M, fun i o e => ?_, fun i el sz e => ?_, fun i j o p b c b' c' ei ej hij e1 e2 p1 p2 => ?_, fun i j r s u v b ei ej hij e1 e2 e3 => ?_, fun i j o r b c v ei ej e1 e2 p1 => ?_, k.fresh⟩
  · rcases hF b hf with hf | hf
    · omega
    · exact hf
  · rw [k.old b (by omega) (fun hf' => by rcases hF b hf' with h1 | h1; omega; exact hf h1)]
    exact h.old b hb hf
  · simp only [Tb.merge] at e
    rcases lk_append _ _ e with e | e
    · obtain ⟨b, c, f1, fr, f0⟩ := k.boxes _ _ e
      refine ⟨b, c, f1, fun hp => ?_, f0⟩
      obtain ⟨cur, f2, f3⟩ := fr hp
      exact ⟨cur, up b f2, f3⟩
    · obtain ⟨d1, d2⟩ := lk_delAll _ _ e
      obtain ⟨b, c, f1, fr, f0⟩ := h.boxes _ _ d2
      refine ⟨b, c, hle.ob _ _ f1, fun hp => ?_, f0⟩
      obtain ⟨cur, f2, f3, ⟨tt, fz, f4, fo⟩, f5, f6, f7, f8, f9⟩ := fr hp
      obtain ⟨_, _, h3, h4⟩ := hbx i o b c e (hle.ob _ _ f1) hp
      exact ⟨cur, f2, fun off => by rw [k.old b h3 h4]; exact f3 off, ⟨tt, fz, (k.keep.block b h3 h4).trans f4, fo⟩, f5, f6, f7, f8.mono hle, f9⟩
  · simp only [Tb.merge] at e
    rcases lk_append _ _ e with e | e
    · obtain ⟨v, f1, f2⟩ := k.rows _ _ _ e
      refine ⟨v, f1, f2.imp (fun h => h) ?_⟩
      rintro ⟨b, n, cap, cur, h3, h4, h5⟩
      exact ⟨b, n, cap, cur, h3, up b h4, h5⟩
    · obtain ⟨d1, d2⟩ := lk_delAll _ _ e
      obtain ⟨v, f1, f2⟩ := h.rows _ _ _ d2
      obtain ⟨_, _, h3⟩ := hrw i _ v e (hle.rv _ _ f1)
      refine ⟨v, hle.rv _ _ f1, f2.imp (fun h => h) ?_⟩
      rintro ⟨b, n, cap, cur, g3, g4, ⟨tt, fz, g5, fo⟩, g6, g7, g8, g9, g10, g11⟩
      obtain ⟨q1, q2⟩ := h3 b (by subst g3; exact rowBlock_lt g7)
      exact ⟨b, n, cap, cur, g3, g4, ⟨tt, fz, (k.keep.block b q1 q2).trans g5, fo⟩, g6, g7, g8, g9, g10.mono hle.M, fun o v e => g11 o v (by rw [← k.old b q1 q2]; exact e)⟩
  · simp only [Tb.merge] at ei ej
    rcases lk_append _ _ ei with ei | ei <;> rcases lk_append _ _ ej with ej | ej
    · exact k.ob_ne i j o p b c b' c' ei ej hij e1 e2 p1 p2
    · obtain ⟨_, _, h3, h4⟩ := hbx j p b' c' ej e2 p2
      exact fun h => apart b' b ⟨h3, h4⟩ (kbx i o b c ei e1 p1) h.symm
    · obtain ⟨_, _, h3, h4⟩ := hbx i o b c ei e1 p1
      exact apart b b' ⟨h3, h4⟩ (kbx j p b' c' ej e2 p2)
    · obtain ⟨q1, q2, _⟩ := hbx i o b c ei e1 p1
      obtain ⟨q3, q4, _⟩ := hbx j p b' c' ej e2 p2
      exact h.ob_ne i j o p b c b' c' q1 q3 hij q2 q4 p1 p2
  · simp only [Tb.merge] at ei ej
    rcases lk_append _ _ ei with ei | ei <;> rcases lk_append _ _ ej with ej | ej
    · exact k.rw_ne i j r s u v b ei ej hij e1 e2 e3
    · obtain ⟨_, _, h3⟩ := hrw j s v ej e2
      exact fun hv => apart b b (h3 b hv) (krw i r u b ei e1 e3) rfl
    · obtain ⟨_, _, h3⟩ := hrw i r u ei e1
      exact fun hv => apart b b (h3 b e3) (krw j s v b ej e2 hv) rfl
    · obtain ⟨q1, q2, _⟩ := hrw i r u ei e1
      obtain ⟨q3, q4, _⟩ := hrw j s v ej e2
      exact h.rw_ne i j r s u v b q1 q3 hij q2 q4 e3
  · simp only [Tb.merge] at ei ej
    rcases lk_append _ _ ei with ei | ei <;> rcases lk_append _ _ ej with ej | ej
    · exact k.ob_rw i j o r b c v ei ej e1 e2 p1
    · obtain ⟨_, _, h3⟩ := hrw j r v ej e2
      exact fun hv => apart b b (h3 b hv) (kbx i o b c ei e1 p1) rfl
    · obtain ⟨_, _, h3, h4⟩ := hbx i o b c ei e1 p1
      exact fun hv => apart b b ⟨h3, h4⟩ (krw j r v b ej e2 hv) rfl
    · obtain ⟨q1, q2, _⟩ := hbx i o b c ei e1 p1
      obtain ⟨q3, q4, _⟩ := hrw j r v ej e2
      exact h.ob_rw i j o r b c v q1 q3 q2 q4 p1

end

/-- A function, by what it does with what it is handed: its answer, what is handed back. -/
def GenC (P : Program) (f : FuncId) (xs : List AV) (tb : Tb) (r : AV) (tb' : Tb) : Prop :=
  CanCall P f ∧ ∀ (g : G) (w : World) (vs : List Value) (F : Nat → Prop), SatW w g.M F tb g w → RepVs g vs xs →
    Calls P f vs.toArray w fun e w' => ∃ v g', e = .returned v ∧ g.le g' ∧ SatW w g.M F tb' g' w' ∧ RepV g' v r

end Go.Av

/-! part AvEql -/
namespace Go.Av
open Go.RowKit

/-- a struct's fields: where each lies, its type; none, if one has no name -/
def fldL (P : Program) (t : TypeId) : Option (List (Nat × TypeId)) :=
  match P.underlying t with
  | some (.struct fs) => if fs.toList.all (fun f => f.name != "_") = true then some (fs.toList.map fun f => (f.offset, f.type)) else none
  | _ => none
def eqOkT (P : Program) (t : TypeId) : Bool := !P.stoodInHeld t && !P.eqGuardType P.depth t
def eqC (P : Program) (t : TypeId) : PC → PC → Option Bool
  | .sc (.int k a), .sc (.int k' b) => if Av.intOf P t = some k ∧ k = k' then some (a == b) else none
  | .sc (.string a), .sc (.string b) => if isStr P t = true then some (bs a == bs b) else none
  | .sc (.bool a), .sc (.bool b) => if isBool P t = true then some (a == b) else none
  | _, _ => none
def eqF (P : Program) (xs ys : List PC) : List (Nat × TypeId) → Option Bool
  | [] => some true
  | (o, t) :: l => match xs[o]?, ys[o]? with
    | some x, some y => (match eqC P t x y, eqF P xs ys l with
      | some a, some b => some (a && b)
      | _, _ => none)
    | _, _ => none
def eqL (P : Program) (xs ys : List PC) : Option (List (Nat × TypeId)) → Option Bool
  | some l => eqF P xs ys l
  | none => none

theorem rep_sc {M : Mem} {u v : Value} (h : Rep M u (.sc v)) : u = v := by cases h; rfl
theorem run_eqC {P : Program} {M : Mem} {t : TypeId} {x y : PC} {r : Bool} {u v : Value} (h : eqC P t x y = some r) (hu : Rep M u x) (hv : Rep M v y) (d : Nat) (w : World) :
    (Op.equalIn (d + 1) t u v).run P w = .ok r w ∧ P.plainKey t = true := by
  unfold eqC at h
  split at h
  · split at h
    · rename_i hc
      obtain ⟨h1, rfl⟩ := hc
      obtain rfl := rep_sc hu
      obtain rfl := rep_sc hv
      injection h with h
      unfold intOf at h1
      split at h1
      · rename_i k hk; injection h1 with h1; subst h1
        exact ⟨by simp [Op.equalIn, run_underlying hk, ← h], by simp [Program.plainKey, hk]⟩
      · cases h1
    · cases h
  · split at h
    · rename_i hc
      obtain rfl := rep_sc hu
      obtain rfl := rep_sc hv
      injection h with h
      have hk : P.underlying t = some .string := by
        unfold isStr at hc
        split at hc
        · rename_i hk; exact hk
        · cases hc
      rename_i a b
      have e : (a == b) = r := by rw [beq_toListBytes, toList_bs, toList_bs, h]
      exact ⟨by simp [Op.equalIn, run_underlying hk, e], by simp [Program.plainKey, hk]⟩
    · cases h
  · split at h
    · rename_i hc
      obtain rfl := rep_sc hu
      obtain rfl := rep_sc hv
      injection h with h
      have hk : P.underlying t = some .bool := by
        unfold isBool at hc
        split at hc
        · rename_i hk; exact hk
        · cases hc
      exact ⟨by simp [Op.equalIn, run_underlying hk, ← h], by simp [Program.plainKey, hk]⟩
    · cases h
  · cases h
theorem run_eqF {P : Program} {M : Mem} {us vs : List Value} {xs ys : List PC} (hu : Reps M us xs) (hv : Reps M vs ys) (d : Nat) (w : World) : ∀ (fs : List Field) (r : Bool), (∀ f ∈ fs, f.name ≠ "_") →
    eqF P xs ys (fs.map fun f => (f.offset, f.type)) = some r → (Op.eqFields (d + 1) us.toArray vs.toArray fs).run P w = .ok r w
  | [], r, _, h => by simp [eqF] at h; subst h; simp [Op.eqFields]
  | f :: fs, r, hn, h => by
    simp only [List.map_cons, eqF] at h
    split at h
    · rename_i x y hx hy
      split at h
      · rename_i a b ha hb
        injection h with h
        obtain ⟨u, hu1, hu2⟩ := hu.get hx
        obtain ⟨v, hv1, hv2⟩ := hv.get hy
        obtain ⟨h1, h2⟩ := run_eqC ha hu2 hv2 d w
        have p1 := run_part_plain (P := P) w h2 (xs := us.toArray) (off := f.offset) (v := u) (by simpa using hu1)
        have p2 := run_part_plain (P := P) w h2 (xs := vs.toArray) (off := f.offset) (v := v) (by simpa using hv1)
        have ih := run_eqF hu hv d w fs b (fun g hg => hn g (by simp [hg])) hb
        simp only [Op.eqFields, hn f (by simp), ne_eq, not_false_eq_true, if_true, Sem.run_bind, p1, p2, h1, Result.andThen_ok]
        subst h
        cases a
        · simp
        · simpa using ih
      · cases h
    · cases h
theorem run_eqL {P : Program} {M : Mem} {t : TypeId} {us vs : List Value} {xs ys : List PC} {r : Bool} (hu : Reps M us xs) (hv : Reps M vs ys) (h : eqL P xs ys (fldL P t) = some r) (ho : eqOkT P t = true) (w : World) :
    (Op.equal t (.agg us.toArray) (.agg vs.toArray)).run P w = .ok r w := by
  unfold fldL at h
  split at h
  · rename_i fs hf
    split at h
    · rename_i hn
      have hfs : P.fieldsOf t = fs := by simp [Program.fieldsOf, hf]
      simp only [eqOkT, Bool.and_eq_true, Bool.not_eq_true'] at ho
      have := run_equalIn_struct (P := P) w 9999 t us.toArray vs.toArray (by rw [hfs]; exact hf) ho.1
      show (Op.equalIn (9999 + 1) t (.agg us.toArray) (.agg vs.toArray)).run P w = .ok r w
      rw [this, hfs]
      exact run_eqF hu hv 9998 w fs.toList r (fun f hm => by have := List.all_eq_true.1 hn f hm; simpa using this) h
    · simp [eqL] at h
  · simp [eqL] at h
end Go.Av

/-! part AvQ -/
namespace Go.Av
open Go.RowKit

/-- is it nil? -/
def nilOf : AV → Option Bool
  | .p .nil => some true
  | .p (.sl (_ :: _)) => some false
  | .own _ (_ :: _) => some false
  | .full (_ :: _) => some false
  | .nn _ => some false
  | .view _ _ (_ + 1) _ _ => some false
  | .view _ _ _ _ (some (_ + 1)) => some false
  | _ => none
def nilOfP : AV → Option Bool
  | .p (.sc (.pointer none)) => some true
  | .p (.ref _) => some false
  | .obj _ _ => some false
  | _ => none
def isPtr (P : Program) (t : TypeId) : Bool := match P.underlying t with | some (.pointer _) => true | _ => false

def nilK (k : AV → Prop) (op : BinOp) : Option Bool → Prop
  | some b => (op = .eql ∧ k (.p (.bool b))) ∨ (op = .neq ∧ k (.p (.bool !b)))
  | none => False

def binS (P : Program) (op : BinOp) (t : TypeId) (k : AV → Prop) : AV → AV → Prop
  | .p (.agg false ys), .p (.agg false xs) => eqOkT P t = true ∧ nilK k op (eqL P xs ys (fldL P t))
  | y, x => binopW P op t k x y
def binQ (P : Program) (op : BinOp) (t : TypeId) (k : AV → Prop) (x : AV) : AV → Prop
  | .p .nil => (elSize P t).isSome = true ∧ nilK k op (nilOf x)
  | .p (.sc (.pointer none)) => isPtr P t = true ∧ nilK k op (nilOfP x)
  | y => binS P op t k y.nm x.nm

def buildW (P : Program) (t : TypeId) (k : AV → Prop) (ps : List (Nat × AV)) : Prop :=
  fieldsOk P t = true ∧ match zeroC P t with
    | some z => (match fillA P t (z.map .p) ps with
      | some zs => k (.agg false zs)
      | none => False)
    | none => False

def noTup : PC → Bool
  | .agg b _ => !b
  | _ => true

def litW (P : Program) (t : TypeId) (n : Nat) (k : AV → Prop) (ps : List (Nat × AV)) : Prop :=
  match elTy P t with
    | some (_, sz, _) => 0 < sz ∧ inOrder 0 ps = true ∧ ps.length = n ∧ n * sz ≤ 16777216 ∧ match allP (ps.map fun p => p.2.nm) with
      | some ys => ys.all (fun y => y.width == sz && noTup y) = true ∧ k (.full ys)
      | none => False
    | none => False

def extQ (i : Nat) (k : AV → Prop) : AV → Prop
  | .agg true xs => match xs[i]? with
    | some y => k y
    | none => False
  | x => extractW i k x.nm
def fieldQ (P : Program) (t : TypeId) (i : Nat) (k : AV → Prop) : AV → Prop
  | .agg false xs => match fld P t i with
    | some (off, s, a) => match partA off s a xs with
      | some y => k y
      | none => False
    | none => False
  | x => fieldW P t i k x.nm
def nilQ (k : AV → Prop) : AV → Prop
  | .obj id off => k (.obj id off)
  | .ifc t x => k (.ifc t x)
  | x => nilW k x.nm

def opQ (P : Program) (op : Op) (e : Operand → AV) (k : AV → Prop) : Prop :=
  match op with
  | .build t ps => buildW P t k (evParts e ps)
  | .buildSlice t n ps => litW P t n k (evParts e ps)
  | .extract x i => extQ i k (e x)
  | .field t x i => fieldQ P t i k (e x)
  | .nilCheck x => nilQ k (e x)
  | .binOp op t x y _ => binQ P op t k (e x) (e y)
  | op => opE P op e k

section
variable {P : Program} {sl : Nat → AV} {o : Oper}

theorem y_extO {x : Operand} {i : Nat} {xs : List AV} {y : AV} (ho : o.op = .extract x i) (hx : evS sl x = .agg true xs) (hy : xs[i]? = some y) : AYld P sl o y :=
  yld_raw fun w0 M0 F tb g a w hw h => by
    have h1 := h x (by simp [ho, Op.operands]); rw [hx] at h1
    generalize hv : a.eval x = v at h1
    cases h1 with
    | tup hs =>
      obtain ⟨u, hu, hr⟩ := hs.get hy
      exact ⟨u, by simp [execOp, ho, hv, Instr.extract, hu], hr⟩

theorem y_fieldO {t : TypeId} {x : Operand} {i off s : Nat} {ag : Bool} {xs : List AV} {y : AV} (ho : o.op = .field t x i) (hx : evS sl x = .agg false xs) (hf : fld P t i = some (off, s, ag)) (hp : partA off s ag xs = some y) : AYld P sl o y :=
  yld_raw fun w0 M0 F tb g a w hw h => by
    have h1 := h x (by simp [ho, Op.operands]); rw [hx] at h1
    generalize hv : a.eval x = v at h1
    cases h1 with
    | agg hs hone =>
      rename_i vs
      have hlen := hs.length
      unfold fld at hf
      split at hf
      · rename_i fs hU
        split at hf
        · rename_i f hfi
          split at hf
          · rename_i s' a' hs' ha'
            injection hf with hf
            obtain ⟨rfl, rfl, rfl⟩ := by simpa using hf
            unfold partA at hp
            cases a' with
            | true =>
              simp only [if_true] at hp
              split at hp
              · rename_i hle
                injection hp with hp; subst hp
                refine ⟨.agg ((vs.drop f.offset).take s').toArray, ?_, .agg ((hs.drop _).take _) fun u hu => hone u (List.mem_of_mem_drop (List.mem_of_mem_take hu))⟩
                have hrun := run_part (P := P) (t := f.type) (a := true) hs' ha' (vs := vs) (off := f.offset) (u := .agg ((vs.drop f.offset).take s').toArray) (by simp only [if_true]; congr 1; apply Array.ext'; simp [Array.toList_extract, List.extract]) w
                simp [execOp, ho, hv, Instr.field, run_underlying hU, hfi, asAgg, hrun]
              · cases hp
            | false =>
              simp only [Bool.false_eq_true, if_false] at hp
              split at hp
              · obtain ⟨u, hu, hr⟩ := hs.get hp
                refine ⟨u, ?_, hr⟩
                have hrun := run_part (P := P) (t := f.type) (a := false) hs' ha' (vs := vs) (off := f.offset) (u := u) (by simpa using hu) w
                simp [execOp, ho, hv, Instr.field, run_underlying hU, hfi, asAgg, hrun]
              · cases hp
          · cases hf
        · cases hf
      · cases hf

theorem y_nilO {x : Operand} {id off : Nat} (ho : o.op = .nilCheck x) (hx : evS sl x = .obj id off) : AYld P sl o (.obj id off) :=
  yld_raw fun w0 M0 F tb g a w hw h => by
    have h1 := h x (by simp [ho, Op.operands]); rw [hx] at h1
    generalize hv : a.eval x = v at h1
    cases h1 with
    | obj e => exact ⟨_, by simp [execOp, ho, hv], .obj e⟩

theorem y_nilI {x : Operand} {t : TypeId} {y : AV} (ho : o.op = .nilCheck x) (hx : evS sl x = .ifc t y) : AYld P sl o (.ifc t y) :=
  yld_raw fun w0 M0 F tb g a w hw h => by
    have h1 := h x (by simp [ho, Op.operands]); rw [hx] at h1
    generalize hv : a.eval x = v at h1
    cases h1 with
    | ifc e => exact ⟨_, by simp [execOp, ho, hv], .ifc e⟩

theorem elSl {t : TypeId} (h : (elSize P t).isSome = true) : ∃ e, P.underlying t = some (.slice e) := by
  obtain ⟨s, hs⟩ := Option.isSome_iff_exists.1 h
  unfold elSize at hs
  split at hs
  · rename_i e he; exact ⟨e, he⟩
  · cases hs

theorem nilOf_rep {g : G} {v : Value} {x : AV} {b : Bool} (h : RepV g v x) (e : nilOf x = some b) : ∃ a n c, v = .slice a n c ∧ a.isNone = b := by
  have ne : ∀ {v : Value} {M : Mem} {y : PC} {ys : List PC}, Rep M v (.sl (y :: ys)) → ∃ a n c, v = .slice a n c ∧ a.isNone = false := fun h => by
    cases h with
    | sl _ _ _ _ _ _ _ _ => exact ⟨_, _, _, rfl, rfl⟩
  unfold nilOf at e
  split at e
  · injection e with e; subst e; cases h with | p h => cases h; exact ⟨_, _, _, rfl, rfl⟩
  · injection e with e; subst e; cases h with | p h => exact ne h
  · injection e with e; subst e; cases h with | own _ h => exact ne h
  · injection e with e; subst e; cases h with | full h => exact ne h
  · injection e with e; subst e; cases h with | nn _ => exact ⟨_, _, _, rfl, rfl⟩
  · injection e with e; subst e
    cases h with | view _ h1 _ h3 _ => cases h3 with
      | real _ _ ha _ => subst ha; exact ⟨_, _, _, rfl, rfl⟩
      | void h0 _ => omega
  · injection e with e; subst e
    cases h with | view _ h1 _ h3 h4 => cases h3 with
      | real _ _ ha _ => subst ha; exact ⟨_, _, _, rfl, rfl⟩
      | void h0 _ => have := h4 _ rfl; omega
  · cases e

theorem nilOfP_rep {g : G} {v : Value} {x : AV} {b : Bool} (h : RepV g v x) (e : nilOfP x = some b) : ∃ a, v = .pointer a ∧ a.isNone = b := by
  unfold nilOfP at e
  split at e <;> first | (injection e with e; subst e) | cases e
  · cases h with | p h => cases h; exact ⟨_, rfl, rfl⟩
  · cases h with | p h => cases h; exact ⟨_, rfl, rfl⟩
  · cases h; exact ⟨_, rfl, rfl⟩

theorem y_eqNil {op : BinOp} {t t' : TypeId} {x y : Operand} {b : Bool} {k : AV → Prop} (ho : o.op = .binOp op t x y t') (hy : evS sl y = .p .nil) (hx : nilOf (evS sl x) = some b) (ht : (elSize P t).isSome = true)
    (hk : nilK k op (some b)) : ∃ r, k r ∧ AYld P sl o r := by
  obtain ⟨e, he⟩ := elSl ht
  have run : ∀ (r : Bool), (∀ (a : Option Addr) (n c : Nat) (w : World), a.isNone = b → (binOp op t (.slice a n c) (.slice none 0 0)).run P w = .ok (.bool r) w) → AYld P sl o (.p (.bool r)) := fun r hr =>
    yld_raw fun w0 M0 F tb g a w hw h => by
      have h1 := h x (by simp [ho, Op.operands])
      have h2 := h y (by simp [ho, Op.operands]); rw [hy] at h2
      obtain ⟨ad, n, c, e1, e2⟩ := nilOf_rep h1 hx
      have h2 := repV_p h2
      generalize hv : a.eval y = v at h2
      cases h2
      have := hr ad n c w e2
      refine ⟨.bool r, ?_, .p (.sc _ rfl)⟩
      simp only [execOp, ho, e1, hv, eqGuard, Sem.run_bind]
      cases op <;> simp [this]
  rcases hk with ⟨rfl, hk⟩ | ⟨rfl, hk⟩
  · exact ⟨_, hk, run _ fun a n c w ha => by rw [Lib.run_eql_slice_nil w t e a n c 0 0 he, ha]⟩
  · exact ⟨_, hk, run _ fun a n c w ha => by rw [run_neq_slice_nil_any w t e a n c 0 0 he, ha]⟩

theorem y_eqNilP {op : BinOp} {t t' : TypeId} {x y : Operand} {b : Bool} {k : AV → Prop} (ho : o.op = .binOp op t x y t') (hy : evS sl y = .p (.sc (.pointer none))) (hx : nilOfP (evS sl x) = some b) (ht : isPtr P t = true)
    (hk : nilK k op (some b)) : ∃ r, k r ∧ AYld P sl o r := by
  have he : P.underlying t = some (.pointer (P.pointee t)) := by
    unfold isPtr at ht
    split at ht
    · rename_i e he; simp [Program.pointee, he]
    · cases ht
  have run : ∀ (r : Bool), (∀ (a : Option Addr) (w : World), a.isNone = b → (binOp op t (.pointer a) (.pointer none)).run P w = .ok (.bool r) w) → AYld P sl o (.p (.bool r)) := fun r hr =>
    yld_raw fun w0 M0 F tb g a w hw h => by
      have h1 := h x (by simp [ho, Op.operands])
      have h2 := h y (by simp [ho, Op.operands]); rw [hy] at h2
      obtain ⟨ad, e1, e2⟩ := nilOfP_rep h1 hx
      have h2 := y_nil_sc h2
      have := hr ad w e2
      refine ⟨.bool r, ?_, .p (.sc _ rfl)⟩
      simp only [execOp, ho, e1, h2, eqGuard, Sem.run_bind]
      cases op <;> simp [this]
  rcases hk with ⟨rfl, hk⟩ | ⟨rfl, hk⟩
  · exact ⟨_, hk, run _ fun a w ha => by rw [run_eql_pointer_nil w t a he, ha]⟩
  · exact ⟨_, hk, run _ fun a w ha => by rw [run_neq_pointer_nil w t a he, ha]⟩

theorem y_eqS {op : BinOp} {t t' : TypeId} {x y : Operand} {r : Bool} {xs ys : List PC} {k : AV → Prop} (ho : o.op = .binOp op t x y t') (hy : (evS sl y).nm = .p (.agg false ys)) (hx : (evS sl x).nm = .p (.agg false xs))
    (h1 : eqOkT P t = true) (he : eqL P xs ys (fldL P t) = some r) (hk : nilK k op (some r)) : ∃ r, k r ∧ AYld P sl o r := by
  have hg : P.eqGuardType P.depth t = false := by simp only [eqOkT, Bool.and_eq_true, Bool.not_eq_true'] at h1; exact h1.2
  have run : ∀ (b : Bool), (∀ (us vs : Array Value) (w : World), (Op.equal t (.agg us) (.agg vs)).run P w = .ok r w → (binOp op t (.agg us) (.agg vs)).run P w = .ok (.bool b) w) → AYld P sl o (.p (.bool b)) := fun b hb =>
    yld_value fun w0 M0 F tb g a w hw h => by
      have g1 := h x (by simp [ho, Op.operands]); rw [hx] at g1
      have g2 := h y (by simp [ho, Op.operands]); rw [hy] at g2
      have g1 := repV_p g1
      have g2 := repV_p g2
      refine ⟨.bool b, ?_, .p (.sc _ rfl)⟩
      generalize hu : a.eval x = u at g1
      generalize hv : a.eval y = v at g2
      cases g1 with
      | agg us _ =>
        cases g2 with
        | agg vs _ =>
          have key := run_eqL us vs he h1 w
          have hb' := hb _ _ w key
          simp only [execOp, ho, hu, hv, Sem.run_bind, run_eqGuard_agg w op t x y _ _ hg, Result.andThen_ok, hb']
          simp
  rcases hk with ⟨rfl, hk⟩ | ⟨rfl, hk⟩
  · exact ⟨_, hk, run _ fun us vs w hr => by simp [binOp, hr]⟩
  · exact ⟨_, hk, run _ fun us vs w hr => by simp [binOp, hr]⟩

theorem opQ_yld {k : AV → Prop} (h : opQ P o.op (evS sl) k) : ∃ x, k x ∧ AYld P sl o x := by
  unfold opQ at h
  split at h
  · rename_i t ps ho
    unfold buildW at h
    obtain ⟨h1, h⟩ := h
    split at h
    · rename_i z hz
      split at h
      · rename_i zs hf; exact ⟨_, h, y_build ho hz h1 hf⟩
      · exact h.elim
    · exact h.elim
  · rename_i t n ps ho
    unfold litW at h
    split at h
    · rename_i e sz by_ ht
      obtain ⟨h1, h2, h3, h4, h⟩ := h
      split at h
      · rename_i ys hys
        obtain ⟨h5, h⟩ := h
        have h6 := List.all_eq_true.1 h5
        have io : ∀ (l : List (Nat × Operand)) (k : Nat), inOrder k (l.map fun p => (p.1, evS sl p.2)) = inOrder k l := by
          intro l; induction l with
          | nil => intro k; rfl
          | cons p l ih => intro k; simp [inOrder, ih]
        refine ⟨_, h, y_buildFull ho ht h1 (by rw [← io]; exact h2) (by simpa [evParts] using h3) h4 (by rw [← hys]; simp [evParts, Function.comp_def]) (fun y hy => ?_) (fun y hy b xs e => ?_)⟩
        · have := h6 y hy; simp at this; exact this.1
        · have := h6 y hy; subst e; simp [noTup] at this; exact this.2
      · exact h.elim
    · exact h.elim
  · rename_i x i ho
    unfold extQ at h
    split at h
    · rename_i xs hx
      split at h
      · rename_i y hy; exact ⟨_, h, y_extO ho hx hy⟩
      · exact h.elim
    · exact opW_yld (P := P) (o := o) (by unfold opW opE; rw [ho]; exact h)
  · rename_i t x i ho
    unfold fieldQ at h
    split at h
    · rename_i xs hx
      split at h
      · rename_i off s a hf
        split at h
        · rename_i y hy; exact ⟨_, h, y_fieldO ho hx hf hy⟩
        · exact h.elim
      · exact h.elim
    · exact opW_yld (P := P) (o := o) (by unfold opW opE; rw [ho]; exact h)
  · rename_i x ho
    unfold nilQ at h
    split at h
    · rename_i id off hx; exact ⟨_, h, y_nilO ho hx⟩
    · rename_i t y hx; exact ⟨_, h, y_nilI ho hx⟩
    · exact opW_yld (P := P) (o := o) (by unfold opW opE; rw [ho]; exact h)
  · rename_i op t x y t' ho
    unfold binQ at h
    split at h
    · rename_i hy
      obtain ⟨h1, h⟩ := h
      cases hn : nilOf (evS sl x) with
      | none => rw [hn] at h; exact h.elim
      | some b => rw [hn] at h; exact y_eqNil ho hy hn h1 h
    · rename_i hy
      obtain ⟨h1, h⟩ := h
      cases hn : nilOfP (evS sl x) with
      | none => rw [hn] at h; exact h.elim
      | some b => rw [hn] at h; exact y_eqNilP ho hy hn h1 h
    · unfold binS at h
      split at h
      · rename_i ys xs hy hx
        obtain ⟨h1, h⟩ := h
        cases he : eqL P xs ys (fldL P t) with
        | none => rw [he] at h; exact h.elim
        | some r => rw [he] at h; exact y_eqS ho hy hx h1 he h
      · exact opW_yld (P := P) (o := o) (by unfold opW opE; rw [ho]; exact h)
  · exact opW_yld (P := P) (o := o) h

end
end Go.Av

/-! part AvArr -/
namespace Go.Av
open Go.RowKit

section
variable {P : Program} {sl : Nat → AV} {o : Oper} {st : AS}

theorem elSize_spec {t : TypeId} {s : Nat} (h : elSize P t = some s) : ∃ el, P.underlying t = some (.slice el) ∧ tySize P el = some s := by
  unfold elSize at h
  split at h
  · rename_i el hU; exact ⟨el, hU, h⟩
  · cases h

theorem y_lenV {c : Call} {x : Operand} {t : TypeId} {id f n s : Nat} {m : Option Nat} (ho : o.op = .call c) (hc : c.callee = .builtin .len) (ha : c.args = #[x]) (hts : c.argTypes = #[t]) (hx : evS sl x = .view id f n s m) (ht : (elSize P t).isSome = true) :
    AYld P sl o (.p (.int n)) :=
  yld_raw fun w0 M0 F tb g a w hw h => by
    have e1 := h x (by rw [ho]; simp [Op.operands, Call.operands, hc, ha]); rw [hx] at e1
    obtain ⟨el, hU⟩ := elSl ht
    generalize hv : a.eval x = v at e1
    cases e1 with
    | view e h3 h4 h5 hm => exact ⟨.int .i64 n, by simp [execOp, ho, resolve, hc, ha, hts, invoke, builtin, hv, Builtin.len_, run_underlying hU, goInt], .p (.sc _ rfl)⟩

theorem y_capV {c : Call} {x : Operand} {t : TypeId} {id f n s m : Nat} (ho : o.op = .call c) (hc : c.callee = .builtin .cap) (ha : c.args = #[x]) (hts : c.argTypes = #[t]) (hx : evS sl x = .view id f n s (some m)) (ht : (elSize P t).isSome = true) :
    AYld P sl o (.p (.int ((m - f : Nat) : Int))) :=
  yld_raw fun w0 M0 F tb g a w hw h => by
    have e1 := h x (by rw [ho]; simp [Op.operands, Call.operands, hc, ha]); rw [hx] at e1
    obtain ⟨el, hU⟩ := elSl ht
    generalize hv : a.eval x = v at e1
    cases e1 with
    | view e h3 h4 h5 hm => obtain rfl := hm _ rfl; exact ⟨.int .i64 (((_ : Nat) - f : Nat) : Int), by simp [execOp, ho, resolve, hc, ha, hts, invoke, builtin, hv, Builtin.cap_, run_underlying hU, goInt], .p (.sc _ rfl)⟩

theorem y_iaV {t : TypeId} {x i : Operand} {id f n s : Nat} {m : Option Nat} {kd : IntKind} {j : Int} (ho : o.op = .indexAddr t x i) (hx : evS sl x = .view id f n s m) (hi : (evS sl i).nm = .p (.sc (.int kd j))) (h0 : 0 ≤ j) (hn : j < (n : Int))
    (hsz : elSize P t = some s) : AYld P sl o (.obj id ((f + j.toNat) * s)) :=
  yld_raw fun w0 M0 F tb g a w hw h => by
    have h1 := h x (by simp [ho, Op.operands]); rw [hx] at h1
    have h2 := repV_nm (h i (by simp [ho, Op.operands])); rw [hi] at h2
    have h2' := repV_p h2
    generalize hv : a.eval x = v at h1
    generalize hv2 : a.eval i = v2 at h2'
    cases h2'
    obtain ⟨el, hU, hs⟩ := elSize_spec hsz
    cases h1 with
    | view e h3 h4 h5 hm =>
      rename_i b cc ad
      cases h5 with
      | void h0 _ => omega
      | real off hcp had h5 =>
      subst had
      obtain rfl := h5 (.inl (by omega))
      refine ⟨.pointer (some ⟨b, (f + j.toNat) * s, none⟩), ?_, .obj e⟩
      simp [execOp, ho, hv, hv2, Instr.indexAt, asIntOf, run_underlying hU, h0, hn, run_sizeOf hs, Addr.add_lit, Nat.add_mul]

theorem y_slV {t : TypeId} {x : Operand} {lo hi : Option Operand} {id f n s l h : Nat} {m : Option Nat} (ho : o.op = .slice t x lo hi none) (hx : evS sl x = .view id f n s m) (hsz : elSize P t = some s)
    (hlo : match lo.map (fun y => (evS sl y).nm) with | none => l = 0 | some (.p (.sc (.int _ i))) => i = (l : Int) | _ => False)
    (hhi : match hi.map (fun y => (evS sl y).nm) with | none => h = n | some (.p (.sc (.int _ i))) => i = (h : Int) | _ => False) (h1 : l ≤ h) (h2 : h ≤ n ∨ ∃ k, m = some k ∧ f + h ≤ k) :
    AYld P sl o (.view id (f + l) (h - l) s m) :=
  yld_raw fun w0 M0 F tb g a w hw hr => by
    have h3 := hr x (by simp [ho, Op.operands]); rw [hx] at h3
    generalize hv : a.eval x = v at h3
    have b1 := bnd_val (fun y e => repV_nm (hr y (by simp [ho, Op.operands, e]))) hlo
    have b2 := bnd_val (fun y e => repV_nm (hr y (by simp [ho, Op.operands, e]))) hhi
    obtain ⟨el, hU, hs⟩ := elSize_spec hsz
    cases h3 with
    | view e h3 h4 h5 hm =>
      rename_i b cc ad
      have h2 : f + h ≤ cc := by
        rcases h2 with h2 | ⟨k, hk, h2⟩
        · omega
        · rw [hm k hk]; exact h2
      cases h5 with
      | void h0 hva =>
        subst h0
        have hl0 : l = 0 := by omega
        have hh0 : h = 0 := by omega
        have hf0 : f = 0 := by omega
        subst hl0; subst hh0; subst hf0
        have hb := run_bnd (P := P) (isS := true) (n := n) (cap := 0) b1 b2 h1 (by omega) w
        refine ⟨.slice ad 0 0, ?_, ?_⟩
        · simp [execOp, ho, hv, Instr.sliceAt, Instr.slice, run_underlying hU, hb, run_sizeOf hs]
        · have := RepV.view (g := g) (id := id) (b := b) (c := 0) (o := 0) (n := 0) (s := s) (a := ad) e (by omega) h4 (.void rfl hva) hm
          simpa using this
      | real off hcp had h5 =>
      subst had
      have hb := run_bnd (P := P) (isS := true) (n := n) (cap := cc - f) b1 b2 h1 (by omega) w
      refine ⟨.slice (some ⟨b, off + (if cc - f = l then 0 else l * s), none⟩) (h - l) (cc - f - l), ?_, ?_⟩
      · have hoff : (if cc - f = l then (some (⟨b, off, none⟩ : Addr)) else some ⟨b, off + l * s, none⟩) = some ⟨b, off + (if cc - f = l then 0 else l * s), none⟩ := by split <;> simp
        rw [← hoff]
        simp [execOp, ho, hv, Instr.sliceAt, Instr.slice, run_underlying hU, hb, run_sizeOf hs, Addr.add_lit]
      · have e2 : cc - f - l = cc - (f + l) := by omega
        rw [e2]
        refine .view e (by omega) h4 (.real _ hcp rfl fun hh => ?_) hm
        split
        · rename_i hml
          rcases hh with hh | hh
          · omega
          · have h0 := h5 (.inr (by omega))
            have : f + l = f := by omega
            rw [this]; simpa using h0
        · rename_i hml
          rw [h5 (.inl (by omega)), Nat.add_mul]

/-- the place of a row's cells, and what they are -/
theorem row_cells {w0 : World} {M0 : Mem} {F : Nat → Prop} {tb : Tb} {g : G} {w : World} (hw : SatW w0 M0 F tb g w) {id b c : Nat} {ob : Ob} (hl : lk id tb.bx = some ob) (he : g.ob id = some (b, c)) (lo k : Nat) (hk : lo + k ≤ ob.xs.length) :
    ∃ cs, cs.length = k ∧ (loadCells ⟨b, lo, none⟩ k).run P w = .ok cs.toArray w ∧ RepVs g cs ((ob.xs.drop lo).take k) ∧ (∀ v ∈ cs, v.oneCell' = true) ∧ (loadCells ⟨b, lo, none⟩ k).run P w.drew = .ok cs.toArray w.drew := by
  have hbox := hw.boxes id ob hl
  by_cases hk0 : k = 0
  · subst hk0
    exact ⟨[], rfl, by simp [loadCells, loadCellsFrom], by simpa using RepVs.nil, by simp, by simp [loadCells, loadCellsFrom]⟩
  have hcp : 0 < c := hbox.pos he fun hz => by rw [hz] at hk; simp at hk; omega
  obtain ⟨cur, f2, f3, ⟨tt, fz, f4, fo⟩, f5, f6, f7, f8, f9⟩ := hbox.real he hcp
  generalize b = b' at *
  have cell : ∀ j u, cur[j]? = some u → w.cell? ⟨b', j, none⟩ = some u := fun j u e => by unfold World.cell?; rw [f4]; simpa using e
  have hls : ((cur.toList.drop lo).take k).length = k := by rw [List.length_take, List.length_drop]; simp; omega
  have hrun := run_loadCells_list (P := P) w ⟨b', lo, none⟩ ((cur.toList.drop lo).take k) (fun j u e => by
    rw [Addr.add_lit]
    rw [List.getElem?_take] at e
    split at e
    · rw [List.getElem?_drop] at e; exact cell _ _ (by simpa using e)
    · cases e)
  rw [hls] at hrun
  have hrun2 := run_loadCells_list (P := P) w.drew ⟨b', lo, none⟩ ((cur.toList.drop lo).take k) (fun j u e => by
    rw [Addr.add_lit]
    rw [List.getElem?_take] at e
    split at e
    · rw [List.getElem?_drop] at e; exact cell _ _ (by simpa using e)
    · cases e)
  rw [hls] at hrun2
  have e3 : ((cur.toList.take ob.xs.length).drop lo).take k = (cur.toList.drop lo).take k := by
    rw [List.drop_take, List.take_take, Nat.min_eq_left (by omega)]
  refine ⟨_, hls, hrun, ?_, fun u hu => f9 u ?_, hrun2⟩
  · have := (f8.drop lo).take k
    rw [e3] at this; exact this
  · rw [← e3] at hu
    exact List.mem_of_mem_take (List.mem_of_mem_drop (List.mem_of_mem_take hu))

/-- cells are written into a row, all of which is known so far -/
theorem row_store {w0 : World} {M0 : Mem} {F : Nat → Prop} {tb : Tb} {g : G} {w : World} (hw : SatW w0 M0 F tb g w) {id b c : Nat} {ob : Ob} (hl : lk id tb.bx = some ob) (he : g.ob id = some (b, c)) (hcp : 0 < c) (lo : Nat) {cs : List Value} {zs : List AV}
    (hz : RepVs g cs zs) (hone : ∀ v ∈ cs, v.oneCell' = true) (hk : lo ≤ ob.xs.length) (hc : lo + zs.length ≤ c * ob.sz) :
    ∃ w', (storeCells ⟨b, lo, none⟩ cs).run P w = .ok () w' ∧ SatW w0 M0 F (tb.setOb id { ob with xs := ob.xs.take lo ++ zs ++ ob.xs.drop (lo + zs.length) }) g w' := by
  have f1' := he
  obtain ⟨cur, f2, f3, ⟨tt, fz, f4, fo⟩, f5, f6, f7, f8, f9⟩ := (hw.boxes id ob hl).real he hcp
  generalize b = b' at *
  have hlz := hz.length
  have hst := run_storeCells_atK P b' lo tt fz cs 0 cur w f4 fo.fz (by omega) hone
  simp only [Nat.add_zero] at hst
  refine ⟨_, hst, ?_⟩
  have hcur : ((cur.toList.take lo ++ cs ++ cur.toList.drop (lo + cs.length)).toArray).toList.take (ob.xs.take lo ++ zs ++ ob.xs.drop (lo + zs.length)).length =
      (cur.toList.take ob.xs.length).take lo ++ cs ++ (cur.toList.take ob.xs.length).drop (lo + zs.length) := by
    have e1 : (ob.xs.take lo ++ zs ++ ob.xs.drop (lo + zs.length)).length = (cur.toList.take lo ++ cs).length + (ob.xs.length - (lo + zs.length)) := by
      simp only [List.length_append, List.length_take, List.length_drop, Array.length_toList]; omega
    have e2 : ((cur.toList.take ob.xs.length).take lo) = cur.toList.take lo := by rw [List.take_take, Nat.min_eq_left hk]
    rw [e1, List.take_length_add_append, e2, hlz, List.drop_take]
  refine hw.setOb (o' := { ob with xs := ob.xs.take lo ++ zs ++ ob.xs.drop (lo + zs.length) }) hl f1' hcp f4 (by simp; omega) rfl rfl (by simp; omega) ?_ ?_
  · show RepVs g (List.take (ob.xs.take lo ++ zs ++ ob.xs.drop (lo + zs.length)).length _) _
    rw [hcur]
    exact ((f8.take lo).append hz).append (f8.drop _)
  · intro v hv
    simp only [List.mem_append] at hv
    rcases hv with (hv | hv) | hv
    · exact f9 v (List.mem_of_mem_take hv)
    · exact hone v hv
    · exact f9 v (List.mem_of_mem_drop hv)

end
end Go.Av

/-! part AvArr2 -/
namespace Go.Av
open Go.RowKit

/-- so many times the same cells -/
def repC (n : Nat) (z : List PC) : List PC := (List.replicate n z).flatten
theorem repC_len (n : Nat) (z : List PC) : (repC n z).length = n * z.length := by simp [repC]
@[simp] theorem repC_one (n : Nat) (x : PC) : repC n [x] = List.replicate n x := by
  induction n with
  | zero => rfl
  | succ n ih => simp only [repC, List.replicate_succ, List.flatten_cons] at ih ⊢; rw [ih]; rfl

theorem rep_cells {z : List Value} : ∀ (n : Nat) (cs : Array Value), cs.toList = (List.replicate n z).flatten → ∀ (M : Mem), (∀ v ∈ z, v.oneCell' = true) → Reps M cs.toList (repC n (z.map c1)) ∧ ∀ v ∈ cs.toList, v.oneCell' = true := by
  intro n cs h M hz
  rw [h]
  constructor
  · unfold repC
    clear h
    induction n with
    | zero => exact .nil
    | succ n ih => simp only [List.replicate_succ, List.flatten_cons]; exact (reps_c1 M z hz).append ih
  · intro v hv
    obtain ⟨l, hl, hv⟩ := List.mem_flatten.1 hv
    rw [List.eq_of_mem_replicate hl] at hv
    exact hz v hv

section
variable {P : Program} {sl : Nat → AV} {o : Oper} {st : AS}

theorem made_flat (z : Array Value) (hz : 0 < z.size) : ∀ (n : Nat), (madeCells z (n * z.size)).toList = (List.replicate n z.toList).flatten
  | 0 => by simp [madeCells]
  | n + 1 => by
    have ih := made_flat z hz n
    have e : (madeCells z ((n + 1) * z.size)).toList = (madeCells z (n * z.size)).toList ++ z.toList := by
      simp only [madeCells, Array.toList_map, Array.toList_range]
      rw [Nat.succ_mul, List.range_add, List.map_append, List.map_map]
      congr 1
      apply List.ext_getElem
      · simp
      · intro i h1 h2
        have hi : i < z.size := by simpa using h2
        simp only [List.getElem_map, List.getElem_range, Function.comp_apply]
        rw [Nat.add_comm, Nat.add_mul_mod_self_right, Nat.mod_eq_of_lt hi]
        simp [hi]
    rw [e, ih, List.replicate_succ', List.flatten_append]
    simp

theorem zeroC_el {e : TypeId} {z : List PC} (h : zeroC P e = some z) {i : TypeInfo} (hi : P.info? e = some i) : ∃ zv, i.zero = some zv ∧ z = zv.cells.toList.map c1 ∧ ∀ v ∈ zv.cells.toList, v.oneCell' = true := by
  obtain ⟨j, zv, h1, h2, h3, h4⟩ := zero_of h
  rw [hi] at h1; injection h1 with h1; subst h1
  exact ⟨zv, h2, h3, h4⟩

theorem t_mk {t e : TypeId} {x y : Operand} {s by_ n c : Nat} {kl kc : IntKind} {z : List PC} (ho : o.op = .makeSlice t x y) (ht : elTy P t = some (e, s, by_)) (hs : 0 < s) (hz : zeroC P e = some z)
    (hx : (evS st.sl x).nm = .p (.sc (.int kl n))) (hy : (evS st.sl y).nm = .p (.sc (.int kc c))) (hn : n ≤ c) (hb : by_ * c ≤ 281474976710656) (hc : c ≤ maxLen) :
    TYld P st o (.view st.tb.nx 0 n s (some c)) (st.tb.addOb ⟨e, s, (repC c z).map .p⟩) :=
  tyld_value fun w0 M0 F g a w hw h => by
    have h1 := repV_nm (h x (by simp [ho, Op.operands])); rw [hx] at h1
    have h2 := repV_nm (h y (by simp [ho, Op.operands])); rw [hy] at h2
    have h1 := y_nil_sc h1
    have h2 := y_nil_sc h2
    obtain ⟨hU, i, zv, hi, hzv, hisz, hiby, hzs⟩ := elTy_spec ht
    obtain ⟨zv', hzv', rfl, hone⟩ := zeroC_el hz hi
    rw [hzv] at hzv'; injection hzv' with hzv'; subst hzv'
    have hb' : (i.bytes : Int) * (c : Int) ≤ 281474976710656 := by rw [hiby]; have := Int.ofNat_le.2 hb; simpa using this
    have hc' : (c : Int) ≤ 9223372036854775807 := by unfold maxLen at hc; omega
    have hrun := run_make (P := P) w t e i zv hU hi hzv kl kc n c (Int.natCast_nonneg n) (Int.ofNat_le.2 hn) hb' hc'
    simp only [Int.toNat_natCast] at hrun
    have hflat := made_flat zv.cells (by omega) c
    have hsz : zv.cells.size = i.size := by rw [hisz, hzs]
    rw [hsz] at hflat
    have hB : Below w.heap.size w (w.alloc (.cells (madeCells zv.cells (c * i.size)) e)) := (Below.refl _ _).alloc (Nat.le_refl _) _
    have hr := rep_cells c (madeCells zv.cells (c * i.size)) hflat g.M hone
    have hlen : ((repC c (zv.cells.toList.map c1)).map AV.p).length = (madeCells zv.cells (c * i.size)).size := by
      simp only [List.length_map, repC_len, size_madeCells, Array.length_toList, hsz]
    have htake : (madeCells zv.cells (c * i.size)).toList.take ((repC c (zv.cells.toList.map c1)).map AV.p).length = (madeCells zv.cells (c * i.size)).toList := List.take_of_length_le (by rw [hlen]; simp)
    have key := hw.newOb (o := ⟨e, s, (repC c (zv.cells.toList.map c1)).map .p⟩) (cur := madeCells zv.cells (c * i.size)) (c := c) hB (heap_alloc_new w _) (by rw [size_madeCells, hisz]) hc (by rw [hlen]; exact Nat.le_refl _)
      (by rw [htake]; exact reps_p hr.1) hr.2
    refine ⟨.slice (some ⟨w.heap.size, 0, none⟩) n c, _, _, ?_, hw.leOb _ _, key, ?_⟩
    · simp only [execOp, ho, h1, h2, Sem.run_bind, hrun]; rfl
    · have := RepV.view (g := g.obAt st.tb.nx w.heap.size c) (id := st.tb.nx) (b := w.heap.size) (c := c) (o := 0) (n := n) (s := s) (a := some ⟨w.heap.size, 0, none⟩) (by simp [G.obAt]) (by omega) hc (by
        rcases Nat.eq_zero_or_pos c with h0 | h0
        · exact .void h0 (.inr ⟨_, rfl⟩)
        · exact .real 0 h0 rfl (fun _ => by simp)) (m := some c) (fun k hk => by injection hk)
      simpa using this

/-- cells are written from a view's beginning on -/
theorem row_write {w0 : World} {M0 : Mem} {F : Nat → Prop} {tb : Tb} {g : G} {w : World} (hw : SatW w0 M0 F tb g w) {id b c f n s off k : Nat} {ob : Ob} (hl : lk id tb.bx = some ob) (he : g.ob id = some (b, c)) (hsz : ob.sz = s)
    (hfn : f + n ≤ c) (hoff : f < c ∨ f = 0 → off = f * s) {cs : List Value} {zs : List AV} (hz : RepVs g cs zs) (hone : ∀ v ∈ cs, v.oneCell' = true) (hk : k ≤ n) (hlen : zs.length = k * s) (hx : f * s ≤ ob.xs.length) :
    ∃ w', (storeCells ⟨b, off, none⟩ cs).run P w = .ok () w' ∧ SatW w0 M0 F (tb.setOb id { ob with xs := ob.xs.take (f * s) ++ zs ++ ob.xs.drop (f * s + zs.length) }) g w' := by
  have hlz := hz.length
  by_cases hk0 : k * s = 0
  · have h0 : zs = [] := List.eq_nil_of_length_eq_zero (by omega)
    have h1 : cs = [] := List.eq_nil_of_length_eq_zero (by omega)
    subst h0; subst h1
    refine ⟨w, by simp [storeCells], hw.sub (fun i p e => ?_) (fun _ _ e => e) (Nat.le_refl _)⟩
    simp only [Tb.setOb, lk_cons] at e
    split at e
    · rename_i hi; subst hi
      injection e with e; subst e
      simp only [List.append_nil, List.length_nil, Nat.add_zero, List.take_append_drop]
      exact hl
    · rename_i hi; rw [lk_del, if_neg hi] at e; exact e
  · have hkp : 0 < k := Nat.pos_of_ne_zero fun h => hk0 (by rw [h]; simp)
    obtain rfl := hoff (.inl (by omega))
    refine row_store hw hl he (by omega) (f * s) hz hone hx ?_
    rw [hlen, hsz, ← Nat.add_mul]
    exact Nat.mul_le_mul_right _ (by omega)

/-- .. wherever it lies -/
theorem row_writeA {w0 : World} {M0 : Mem} {F : Nat → Prop} {tb : Tb} {g : G} {w : World} (hw : SatW w0 M0 F tb g w) {id b c f n s k : Nat} {a : Option Addr} {ob : Ob} (hl : lk id tb.bx = some ob) (he : g.ob id = some (b, c)) (hsz : ob.sz = s)
    (hfn : f + n ≤ c) (hv : VAddr a b c f s) {cs : List Value} {zs : List AV} (hz : RepVs g cs zs) (hone : ∀ v ∈ cs, v.oneCell' = true) (hk : k ≤ n) (hlen : zs.length = k * s) (hx : f * s ≤ ob.xs.length) :
    ∃ w', (∀ ad, a = some ad → (storeCells ad cs).run P w = .ok () w') ∧ (a = none → w' = w) ∧ SatW w0 M0 F (tb.setOb id { ob with xs := ob.xs.take (f * s) ++ zs ++ ob.xs.drop (f * s + zs.length) }) g w' := by
  cases hv with
  | real off hcp ha hoff =>
    subst ha
    obtain ⟨w', h1, h2⟩ := row_write (P := P) hw hl he hsz hfn hoff hz hone hk hlen hx
    exact ⟨w', (fun ad e => by injection e with e; subst e; exact h1), (fun e => by cases e), h2⟩
  | void h0 ha =>
    obtain ⟨w', h1, h2⟩ := row_write (P := P) (off := f * s) hw hl he hsz hfn (fun _ => rfl) hz hone hk hlen hx
    have hk0 : k = 0 := by omega
    have hc0 : cs = [] := List.eq_nil_of_length_eq_zero (by rw [hz.length, hlen, hk0, Nat.zero_mul])
    subst hc0
    simp only [storeCells, Sem.run_pure] at h1
    injection h1 with _ h1; subst h1
    exact ⟨w, (fun ad e => by simp [storeCells]), (fun _ => rfl), h2⟩

/-- what is not known is something -/
def padTo (k : Nat) (xs : List AV) : List AV := xs ++ List.replicate (k - xs.length) .any
theorem padTo_le {k : Nat} {xs : List AV} (h : k ≤ xs.length) : padTo k xs = xs := by
  unfold padTo; rw [Nat.sub_eq_zero_of_le h]; simp
theorem padTo_len {k : Nat} {xs : List AV} : (padTo k xs).length = max xs.length k := by
  unfold padTo; simp; omega

theorem SatW.padOb {w0 : World} {M0 : Mem} {F : Nat → Prop} {tb : Tb} {g : G} {w : World} (hw : SatW w0 M0 F tb g w) {id b c k : Nat} {ob : Ob} (hl : lk id tb.bx = some ob) (he : g.ob id = some (b, c)) (hk : k ≤ c * ob.sz) :
    SatW w0 M0 F (tb.setOb id { ob with xs := padTo k ob.xs }) g w := by
  rcases Nat.eq_zero_or_pos c with h0 | h0
  · subst h0
    rw [padTo_le (by omega)]
    refine hw.sub (fun i p e => ?_) (fun _ _ e => e) (Nat.le_refl _)
    simp only [Tb.setOb, lk_cons] at e
    by_cases hi : i = id
    · rw [if_pos hi] at e; injection e with e; subst e; subst hi; exact hl
    · rw [if_neg hi, lk_del, if_neg hi] at e; exact e
  · obtain ⟨cur, f2, f3, ⟨tt, fz, f4, fo⟩, f5, f6, f7, f8, f9⟩ := (hw.boxes id ob hl).real he h0
    have hlen : (padTo k ob.xs).length ≤ cur.size := by rw [padTo_len, f5]; omega
    have anys : ∀ (l : List Value), RepVs g l (List.replicate l.length .any) := fun l => by
      induction l with
      | nil => exact .nil
      | cons v l ih => exact .cons (.any v) ih
    have hrep : RepVs g (cur.toList.take (padTo k ob.xs).length) (padTo k ob.xs) := by
      have e1 : cur.toList.take (padTo k ob.xs).length = cur.toList.take ob.xs.length ++ (cur.toList.drop ob.xs.length).take (k - ob.xs.length) := by
        have : (padTo k ob.xs).length = ob.xs.length + (k - ob.xs.length) := by rw [padTo_len]; omega
        rw [this, List.take_add]
      rw [e1]
      refine f8.append ?_
      have := anys ((cur.toList.drop ob.xs.length).take (k - ob.xs.length))
      have e2 : ((cur.toList.drop ob.xs.length).take (k - ob.xs.length)).length = k - ob.xs.length := by
        rw [padTo_len] at hlen
        rw [List.length_take, List.length_drop, Array.length_toList]; omega
      rw [e2] at this; exact this
    have key := hw.setOb (o' := { ob with xs := padTo k ob.xs }) (cur' := cur) hl he h0 f4 rfl rfl rfl hlen hrep f9
    have : w.setRow b cur = w := by
      obtain ⟨heap, tape, drawn, os, output⟩ := w
      simp only [World.setRow, World.mk.injEq, and_true] at f4 ⊢
      apply Array.ext_getElem?
      intro k
      rw [Array.getElem?_modify]
      split
      · rename_i e; subst e; rw [f4]; rfl
      · rfl
    rw [this] at key; exact key

theorem t_pad {x : AV} {tb' : Tb} {y : Operand} {id f n s : Nat} {m : Option Nat} {ob : Ob} (hy : y ∈ o.op.operands) (hx : evS st.sl y = .view id f n s m) (hl : lk id st.tb.bx = some ob) (hsz : ob.sz = s)
    (h : TYld P ⟨st.sl, st.tb.setOb id { ob with xs := padTo (f * s) ob.xs }⟩ o x tb') : TYld P st o x tb' := by
  intro w0 M0 F g a w hw hop K Q hK
  have h1 := repV_ev (a := a) y (fun t e => hop t (e ▸ hy))
  rw [hx] at h1
  generalize a.eval y = v at h1
  cases h1 with
  | view e h3 h4 h5 hm =>
    exact h w0 M0 F g a w (hw.padOb hl e (by rw [hsz]; exact Nat.mul_le_mul_right _ (by omega))) hop K Q hK

/-- a lasting value's cells -/
def pcCells : PC → List AV
  | .agg false xs => xs.map .p
  | x => [.p x]

theorem reps_cells {g : G} : ∀ {us : List Value} {ys : List PC}, Reps g.M us ys → (∀ y ∈ ys, noTup y = true) → RepVs g (cellsOf us) (ys.flatMap pcCells)
  | _, _, .nil, _ => .nil
  | v :: us, y :: ys, .cons h hs, hn => by
    simp only [cellsOf, List.flatMap_cons]
    refine RepVs.append ?_ (reps_cells hs fun z hz => hn z (by simp [hz]))
    have hy := hn y (by simp)
    by_cases hp : y.plain = true
    · obtain ⟨e1, e2⟩ := rep_plain h hp
      rw [e1]
      have : pcCells y = [.p y] := by cases y <;> simp_all [pcCells, PC.plain]
      rw [this]; exact .cons (.p h) .nil
    · cases y with
      | agg b xs =>
        cases b with
        | true => simp [noTup] at hy
        | false =>
          cases h with
          | agg hr h1 => simpa [pcCells, Value.cells] using reps_p hr
      | _ => simp [PC.plain] at hp

theorem run_copy2 {c : Call} {x y : Operand} {t u : TypeId} (ho : o.op = .call c) (hc : c.callee = .builtin .copy) (ha : c.args = #[x, y]) (ht : c.argTypes = #[t, u]) (a : Act) (w : World) :
    (execOp a.eval o).run P w = ((Builtin.copy_ #[t, u] o.type #[a.eval x, a.eval y]).run P w).andThen fun v w => .ok (.value v) w := by
  simp only [execOp, ho, resolve, hc, ha, ht, Sem.run_bind, Sem.run_pure, Result.andThen_ok, invoke, builtin, List.map_toArray, List.map_cons, List.map_nil]

/-- copy, out of what is copied -/
theorem copy_core {c : Call} {x y : Operand} {t u : TypeId} {id f n s k : Nat} {m : Option Nat} {ob : Ob} {zs : List AV} (ho : o.op = .call c) (hc : c.callee = .builtin .copy) (ha : c.args = #[x, y]) (hts : c.argTypes = #[t, u])
    (hx : evS st.sl x = .view id f n s m) (hl : lk id st.tb.bx = some ob) (hsz : ob.sz = s) (hel : elSize P t = some s) (hf : f * s ≤ ob.xs.length) (hk : k ≤ n) (hlen : zs.length = k * s)
    (hsrc : ∀ (w0 : World) (M0 : Mem) (F : Nat → Prop) (g : G) (v : Value) (w : World), SatW w0 M0 F st.tb g w → RepV g v (evS st.sl y) → ∃ sLen cs, (Builtin.lenOf v).run P w = .ok sLen w ∧ Nat.min sLen n = k ∧
      (Builtin.firstCells s k v).run P w = .ok cs.toArray w ∧ RepVs g cs zs ∧ ∀ u ∈ cs, u.oneCell' = true) :
    TYld P st o (.p (.int k)) (st.tb.setOb id { ob with xs := ob.xs.take (f * s) ++ zs ++ ob.xs.drop (f * s + zs.length) }) :=
  tyld_value fun w0 M0 F g a w hw h => by
    have h1 := h x (by rw [ho]; simp [Op.operands, Call.operands, hc, ha]); rw [hx] at h1
    have h2 := h y (by rw [ho]; simp [Op.operands, Call.operands, hc, ha])
    obtain ⟨el, hU, hs⟩ := elSize_spec hel
    obtain ⟨sLen, cs, q1, q2, q3, q4, q5⟩ := hsrc w0 M0 F g _ w hw h2
    generalize hv : a.eval x = v at h1
    cases h1 with
    | view e h3 h4 h5 hm =>
      rename_i b cc ad
      obtain ⟨w', r1, r0, r2⟩ := row_writeA (P := P) hw hl e hsz h3 h5 q4 q5 hk hlen hf
      refine ⟨.int .i64 k, w', g, ?_, G.le_refl g, r2, .p (.sc _ rfl)⟩
      rw [run_copy2 ho hc ha hts, hv]
      have : (Builtin.copy_ #[t, u] o.type #[.slice ad n (cc - f), a.eval y]).run P w = .ok (goInt k) w' := by
        cases ad with
        | none => obtain rfl := r0 rfl; simp [Builtin.copy_, run_underlying hU, q1, q2, run_sizeOf hs, q3]
        | some ad => simp [Builtin.copy_, run_underlying hU, q1, q2, run_sizeOf hs, q3, r1 ad rfl]
      rw [this]; rfl

/-- .. a part of a row -/
theorem t_copyV {c : Call} {x y : Operand} {t u : TypeId} {id f n s id' f' n' k : Nat} {m m' : Option Nat} {ob ob' : Ob} (ho : o.op = .call c) (hc : c.callee = .builtin .copy) (ha : c.args = #[x, y]) (hts : c.argTypes = #[t, u])
    (hx : evS st.sl x = .view id f n s m) (hl : lk id st.tb.bx = some ob) (hsz : ob.sz = s) (hel : elSize P t = some s) (hf : f * s ≤ ob.xs.length)
    (hy : evS st.sl y = .view id' f' n' s m') (hl' : lk id' st.tb.bx = some ob') (hk : Nat.min n' n = k) (hf' : (f' + k) * s ≤ ob'.xs.length) :
    TYld P st o (.p (.int k)) (st.tb.setOb id { ob with xs := ob.xs.take (f * s) ++ (ob'.xs.drop (f' * s)).take (k * s) ++ ob.xs.drop (f * s + k * s) }) := by
  have hzl : ((ob'.xs.drop (f' * s)).take (k * s)).length = k * s := by
    rw [List.length_take, List.length_drop]; rw [Nat.add_mul] at hf'; omega
  have := copy_core (P := P) (st := st) (o := o) (k := k) (zs := (ob'.xs.drop (f' * s)).take (k * s)) ho hc ha hts hx hl hsz hel hf (by rw [← hk]; exact Nat.min_le_right _ _) hzl ?_
  · rw [hzl] at this; exact this
  · intro w0 M0 F g v w hw hv
    rw [hy] at hv
    cases hv with
    | view e h3 h4 h5 hm =>
      rename_i b cc ad
      by_cases hk0 : k * s = 0
      · refine ⟨n', [], by simp [Builtin.lenOf], hk, ?_, ?_, by simp⟩
        · cases ad <;> simp only [Builtin.firstCells, hk0] <;> rfl
        · rw [List.eq_nil_of_length_eq_zero (l := (ob'.xs.drop (f' * s)).take (k * s)) (by omega)]; exact .nil
      · have hkp : 0 < k := Nat.pos_of_ne_zero fun h => hk0 (by rw [h]; simp)
        have hkn : k ≤ n' := by rw [← hk]; exact Nat.min_le_left _ _
        cases h5 with
        | void h0 _ => omega
        | real off hcp had h5 =>
        subst had
        obtain rfl := h5 (.inl (by omega))
        obtain ⟨cs, r1, r2, r3, r4, _⟩ := row_cells (P := P) hw hl' e (f' * s) (k * s) (by rw [← Nat.add_mul]; exact hf')
        exact ⟨n', cs, by simp [Builtin.lenOf], hk, by simp only [Builtin.firstCells]; exact r2, r3, r4⟩

/-- .. of a list that lasts -/
theorem t_copyL {c : Call} {x y : Operand} {t u : TypeId} {id f n s k : Nat} {m : Option Nat} {ob : Ob} {ys : List PC} (ho : o.op = .call c) (hc : c.callee = .builtin .copy) (ha : c.args = #[x, y]) (hts : c.argTypes = #[t, u])
    (hx : evS st.sl x = .view id f n s m) (hl : lk id st.tb.bx = some ob) (hsz : ob.sz = s) (hel : elSize P t = some s) (hf : f * s ≤ ob.xs.length)
    (hy : (evS st.sl y).nm = .p (.sl ys)) (hk : Nat.min ys.length n = k) (hw' : ∀ y ∈ ys, y.width = s) (hn : ∀ y ∈ ys, noTup y = true) :
    TYld P st o (.p (.int k)) (st.tb.setOb id { ob with xs := ob.xs.take (f * s) ++ (ys.take k).flatMap pcCells ++ ob.xs.drop (f * s + k * s) }) := by
  have hkl : k ≤ ys.length := by rw [← hk]; exact Nat.min_le_left _ _
  have hwid : ∀ y ∈ ys, (pcCells y).length = s := fun y hy => by
    rw [← hw' y hy]
    cases y with
    | agg b l => cases b <;> simp [pcCells, PC.width]
    | _ => rfl
  have hzl : ((ys.take k).flatMap pcCells).length = k * s := by
    have key : ∀ (l : List PC), (∀ y ∈ l, (pcCells y).length = s) → (l.flatMap pcCells).length = l.length * s := by
      intro l
      induction l with
      | nil => intro _; simp
      | cons z l ih => intro h; simp only [List.flatMap_cons, List.length_append, List.length_cons]; rw [ih fun q hq => h q (by simp [hq]), h z (by simp), Nat.succ_mul]; omega
    rw [key _ fun y hy => hwid y (List.mem_of_mem_take hy), List.length_take, Nat.min_eq_left hkl]
  have := copy_core (P := P) (st := st) (o := o) (k := k) (zs := (ys.take k).flatMap pcCells) ho hc ha hts hx hl hsz hel hf (by rw [← hk]; exact Nat.min_le_right _ _) hzl ?_
  · rw [hzl] at this; exact this
  · intro w0 M0 F g v w hw hv
    have hv := repV_nm hv
    rw [hy] at hv
    obtain ⟨ad, cap, us, hsl⟩ := isSl_of (repV_p hv)
    have hus := hsl.hus
    have hlu := hus.length
    have hsizes : ∀ u ∈ us.take k, u.cells.size = s := fun u hu => reps_sizes hus hw' u (List.mem_of_mem_take hu)
    have hcl := cellsOf_length (us.take k) hsizes
    rw [List.length_take, Nat.min_eq_left (by omega)] at hcl
    refine ⟨ys.length, cellsOf (us.take k), by rw [hsl.hv]; simp [Builtin.lenOf], hk, ?_, reps_cells (hus.take k) fun y hy => hn y (List.mem_of_mem_take hy), fun u hu => hsl.hone u ?_⟩
    · rw [hsl.hv]
      cases ad with
      | none =>
        have h0 := hsl.hnil rfl
        have h1 := hsl.hcap
        have : us = [] := List.eq_nil_of_length_eq_zero (by omega)
        subst this
        simp [Builtin.firstCells, cellsOf]
      | some b =>
        rcases hsl.hat b rfl with ⟨e, hat⟩ | hc0
        case inr =>
          have h1 := hsl.hcap
          have hu0 : us = [] := List.eq_nil_of_length_eq_zero (by omega)
          subst hu0
          exact run_firstCells_at hcl fun j u hj => by simp [cellsOf] at hj
        refine run_firstCells_at hcl fun j u hj => ?_
        rw [e, Addr.add_lit]
        refine hw.holds _ _ _ (hat j u ?_)
        have e3 : cellsOf us = cellsOf (us.take k) ++ cellsOf (us.drop k) := by rw [← cellsOf_append, List.take_append_drop]
        rw [e3, List.getElem?_append_left (List.getElem?_eq_some_iff.1 hj).1]; exact hj
    · have e3 : cellsOf us = cellsOf (us.take k) ++ cellsOf (us.drop k) := by rw [← cellsOf_append, List.take_append_drop]
      rw [e3]; exact List.mem_append_left _ hu

theorem zero_cells {z : Array Value} (hz : 0 < z.size) (n : Nat) : (Builtin.zeroCells z n).toList = (List.replicate n z.toList).flatten := made_flat z hz n

/-- clear -/
theorem t_clearV {c : Call} {x : Operand} {t e : TypeId} {id f n s by_ : Nat} {m : Option Nat} {ob : Ob} {z : List PC} (ho : o.op = .call c) (hc : c.callee = .builtin .clear) (ha : c.args = #[x]) (hts : c.argTypes = #[t])
    (hx : evS st.sl x = .view id f n s m) (hl : lk id st.tb.bx = some ob) (hsz : ob.sz = s) (hel : elTy P t = some (e, s, by_)) (hs : 0 < s) (hz : zeroC P e = some z) (hf : f * s ≤ ob.xs.length) :
    TYld P st o .any (st.tb.setOb id { ob with xs := ob.xs.take (f * s) ++ (repC n z).map .p ++ ob.xs.drop (f * s + n * s) }) :=
  tyld_value fun w0 M0 F g a w hw h => by
    have h1 := h x (by rw [ho]; simp [Op.operands, Call.operands, hc, ha]); rw [hx] at h1
    obtain ⟨hU, i, zv, hi, hzv, hisz, hiby, hzs⟩ := elTy_spec hel
    obtain ⟨zv', hzv', rfl, hone⟩ := zeroC_el hz hi
    rw [hzv] at hzv'; injection hzv' with hzv'; subst hzv'
    have hflat := zero_cells (z := zv.cells) (by omega) n
    have hr := rep_cells n (Builtin.zeroCells zv.cells n) hflat g.M hone
    generalize hv : a.eval x = v at h1
    cases h1 with
    | view e h3 h4 h5 hm =>
      rename_i b cc ad
      have hlen : ((repC n (zv.cells.toList.map c1)).map AV.p).length = n * s := by simp only [List.length_map, repC_len, Array.length_toList, hzs]
      obtain ⟨w', r1, r0, r2⟩ := row_writeA (P := P) hw hl e hsz h3 h5 (reps_p hr.1) hr.2 (Nat.le_refl n) hlen hf
      rw [hlen] at r2
      refine ⟨.tuple #[], w', g, ?_, G.le_refl g, r2, .any _⟩
      have hrun : (Builtin.clear_ #[t] o.type #[.slice ad n (cc - f)]).run P w = .ok (.tuple #[]) w' := by
        cases ad with
        | none => obtain rfl := r0 rfl; simp [Builtin.clear_, run_underlying hU]
        | some ad =>
        have r1 := r1 ad rfl
        cases n with
        | zero =>
          have e0 : (Builtin.zeroCells zv.cells 0).toList = [] := by rw [hflat]; simp
          rw [e0] at r1
          simp only [storeCells, Sem.run_pure] at r1
          injection r1 with _ r1; subst r1
          simp [Builtin.clear_, run_underlying hU]
        | succ n => simp [Builtin.clear_, run_underlying hU, zeroValue, typeInfo, hi, hzv, r1]
      simp only [execOp, ho, resolve, hc, ha, hts, Sem.run_bind, Sem.run_pure, Result.andThen_ok, invoke, builtin, List.map_toArray, List.map_cons, List.map_nil, hv, hrun]
      try rfl

end
end Go.Av

/-! part AvPub -/
namespace Go.Av
open Go.RowKit

theorem RepVs.split {g : G} : ∀ (xs : List AV) {vs : List Value} {ys : List AV}, RepVs g vs (xs ++ ys) → ∃ us ws, vs = us ++ ws ∧ RepVs g us xs ∧ RepVs g ws ys
  | [], vs, _, h => ⟨[], vs, rfl, .nil, h⟩
  | x :: xs, _, ys, h => by
    cases h with
    | cons h hs =>
      obtain ⟨us, ws, rfl, h1, h2⟩ := RepVs.split xs hs
      exact ⟨_ :: us, ws, rfl, .cons h h1, h2⟩

theorem reps_of_p {g : G} : ∀ {vs : List Value} (xs : List PC), RepVs g vs (xs.map .p) → Reps g.M vs xs
  | _, [], h => by cases h; exact .nil
  | _, x :: xs, h => by cases h with | cons h hs => exact .cons (repV_p h) (reps_of_p xs hs)

theorem cells_reps {g : G} : ∀ (ys : List PC) {cs : List Value}, RepVs g cs (ys.flatMap pcCells) → (∀ u ∈ cs, u.oneCell' = true) → (∀ y ∈ ys, noTup y = true) → ∃ us, cellsOf us = cs ∧ Reps g.M us ys
  | [], _, h, _, _ => by cases h; exact ⟨[], rfl, .nil⟩
  | y :: ys, cs, h, h1, hn => by
    simp only [List.flatMap_cons] at h
    obtain ⟨us, ws, rfl, k1, k2⟩ := RepVs.split _ h
    obtain ⟨vs, e, k3⟩ := cells_reps ys k2 (fun u hu => h1 u (by simp [hu])) (fun z hz => hn z (by simp [hz]))
    have one : ∀ (v : Value), us = [v] → v.cells = #[v] := fun v e => by
      have := h1 v (by rw [e]; simp)
      cases v <;> simp_all [Value.cells, Value.oneCell']
    have plain : pcCells y = [.p y] → ∃ us', cellsOf us' = us ++ ws ∧ Reps g.M us' (y :: ys) := fun hp => by
      rw [hp] at k1
      cases k1 with
      | @cons v _ _ _ hv hs =>
        cases hs
        refine ⟨v :: vs, ?_, .cons (repV_p hv) k3⟩
        simp only [cellsOf, List.flatMap_cons] at e ⊢
        rw [one v rfl, e]
    cases y with
    | agg b l =>
      cases b with
      | true => have := hn (.agg true l) (by simp); simp [noTup] at this
      | false =>
        simp only [pcCells] at k1
        have hr := reps_of_p l k1
        refine ⟨.agg us.toArray :: vs, ?_, .cons (.agg hr fun v hv => h1 v (by simp [hv])) k3⟩
        simp only [cellsOf, List.flatMap_cons] at e ⊢
        rw [e]; simp [Value.cells]
    | _ => exact plain rfl

section
variable {w0 : World} {M0 : Mem} {F : Nat → Prop} {tb : Tb} {g : G} {w : World}

end
end Go.Av

/-! part AvOpr -/
namespace Go.Av
open Go.RowKit

def iaQ (P : Program) (t : TypeId) (k : AV → Prop) : AV → AV → Prop
  | .view id f n s m, y => (match y.nm with
    | .p (.sc (.int _ j)) => 0 ≤ j ∧ j < (n : Int) ∧ elSize P t = some s ∧ k (.obj id ((f + j.toNat) * s))
    | _ => False)
  | .obj id off, y => (match y.nm, arrEl P t with
    | .p (.sc (.int _ j)), some (m, s, _) => 0 ≤ j ∧ j < (m : Int) ∧ k (.obj id (off + j.toNat * s))
    | _, _ => False)
  | x, y => indexAddrW P t k x.nm y.nm
def bndV (n cap : Nat) (lo hi : Option AV) (k : Nat → Nat → Prop) : Prop :=
  match bndN 0 lo, bndN n hi with
  | some l, some h => bndC lo ∧ bndC hi ∧ l ≤ h ∧ h ≤ cap ∧ k l h
  | _, _ => False
def slQ (P : Program) (t : TypeId) (lo hi : Option AV) (k : AV → Prop) : AV → Prop
  | .view id f n s (some m) => elSize P t = some s ∧ f ≤ m ∧ bndV n (m - f) lo hi fun l h => k (.view id (f + l) (h - l) s (some m))
  | .view id f n s none => elSize P t = some s ∧ bndV n n lo hi fun l h => k (.view id (f + l) (h - l) s none)
  | .p .nil => (elSize P t).isSome = true ∧ bndV 0 0 lo hi fun _ _ => k (.p .nil)
  | x => sliceW P t lo hi k x.nm
/-- with a bound on its room; all three told -/
def sl3 (P : Program) (t : TypeId) (k : AV → Prop) (lo hi mx : AV) : AV → Prop
  | .view _ _ n _ _ => (match lo, hi, mx with
    | .p (.sc (.int _ l)), .p (.sc (.int _ h)), .p (.sc (.int _ m)) => (elSize P t).isSome = true ∧ 0 ≤ l ∧ l ≤ h ∧ h ≤ m ∧ m ≤ (n : Int) ∧ k .any
    | _, _, _ => False)
  | x => (match x.nm, lo, hi, mx with
    | .p (.sl xs), .p (.sc (.int _ l)), .p (.sc (.int _ h)), .p (.sc (.int _ m)) => (elSize P t).isSome = true ∧ (∀ y ∈ xs, elSize P t = some y.width) ∧ 0 ≤ l ∧ l ≤ h ∧ h = m ∧ m ≤ (xs.length : Int) ∧ k (.full ((xs.take h.toNat).drop l.toNat))
    | _, _, _, _ => False)
def lenQ (P : Program) (t : TypeId) (k : AV → Prop) : AV → Prop
  | .view _ _ n _ _ => (elSize P t).isSome = true ∧ k (.p (.int n))
  | x => lenW P t k x.nm
def capQ (P : Program) (t : TypeId) (k : AV → Prop) : AV → Prop
  | .view _ f _ _ (some m) => (elSize P t).isSome = true ∧ k (.p (.int ((m - f : Nat) : Int)))
  | .p .nil => (elSize P t).isSome = true ∧ k (.p (.int 0))
  | .full xs => (elSize P t).isSome = true ∧ k (.p (.int xs.length))
  | _ => False

def opR (P : Program) (op : Op) (e : Operand → AV) (k : AV → Prop) : Prop :=
  match op with
  | .indexAddr t x i => iaQ P t k (e x) (e i)
  | .slice t x lo hi none => slQ P t (lo.map fun y => (e y).nm) (hi.map fun y => (e y).nm) k (e x)
  | .slice t x none (some hi) (some mx) => sl3 P t k (.p (.int 0)) (e hi).nm (e mx).nm (e x)
  | .slice t x (some lo) (some hi) (some mx) => sl3 P t k (e lo).nm (e hi).nm (e mx).nm (e x)
  | .call c => (match c.callee with
    | .builtin .len => c.args.size = 1 ∧ c.argTypes.size = 1 ∧ lenQ P (c.argTypes.getD 0 0) k (e (c.args.getD 0 (.tmp 0)))
    | .builtin .cap => c.args.size = 1 ∧ c.argTypes.size = 1 ∧ capQ P (c.argTypes.getD 0 0) k (e (c.args.getD 0 (.tmp 0)))
    | _ => opQ P (.call c) e k)
  | op => opQ P op e k

section
variable {P : Program} {sl : Nat → AV} {o : Oper}

theorem y_capN {c : Call} {x : Operand} {t : TypeId} (ho : o.op = .call c) (hc : c.callee = .builtin .cap) (ha : c.args = #[x]) (hts : c.argTypes = #[t]) (hx : evS sl x = .p .nil) (ht : (elSize P t).isSome = true) :
    AYld P sl o (.p (.int 0)) :=
  yld_raw fun w0 M0 F tb g a w hw h => by
    have e1 := h x (by rw [ho]; simp [Op.operands, Call.operands, hc, ha]); rw [hx] at e1
    obtain ⟨el, hU⟩ := elSl ht
    have e1 := repV_p e1
    generalize hv : a.eval x = v at e1
    cases e1
    exact ⟨.int .i64 0, by simp [execOp, ho, resolve, hc, ha, hts, invoke, builtin, hv, Builtin.cap_, run_underlying hU, goInt], .p (.sc _ rfl)⟩

theorem y_capF {c : Call} {x : Operand} {t : TypeId} {xs : List PC} (ho : o.op = .call c) (hc : c.callee = .builtin .cap) (ha : c.args = #[x]) (hts : c.argTypes = #[t]) (hx : evS sl x = .full xs) (ht : (elSize P t).isSome = true) :
    AYld P sl o (.p (.int xs.length)) :=
  yld_raw fun w0 M0 F tb g a w hw h => by
    have e1 := h x (by rw [ho]; simp [Op.operands, Call.operands, hc, ha]); rw [hx] at e1
    obtain ⟨el, hU⟩ := elSl ht
    generalize hv : a.eval x = v at e1
    cases e1 with
    | full hr =>
      rename_i ad n
      have hn : n = xs.length := by
        cases hr with
        | nilsl => rfl
        | sl0 a => rfl
        | sl hn _ _ _ _ _ _ hs => rw [← hn, hs.length]
      subst hn
      exact ⟨.int .i64 xs.length, by simp [execOp, ho, resolve, hc, ha, hts, invoke, builtin, hv, Builtin.cap_, run_underlying hU, goInt], .p (.sc _ rfl)⟩

theorem y_slN {t : TypeId} {x : Operand} {lo hi : Option Operand} {l h : Nat} (ho : o.op = .slice t x lo hi none) (hx : evS sl x = .p .nil) (hsz : (elSize P t).isSome = true)
    (hlo : match lo.map (fun y => (evS sl y).nm) with | none => l = 0 | some (.p (.sc (.int _ i))) => i = (l : Int) | _ => False)
    (hhi : match hi.map (fun y => (evS sl y).nm) with | none => h = 0 | some (.p (.sc (.int _ i))) => i = (h : Int) | _ => False) (h1 : l ≤ h) (h2 : h ≤ 0) :
    AYld P sl o (.p .nil) :=
  yld_raw fun w0 M0 F tb g a w hw hr => by
    have h3 := hr x (by simp [ho, Op.operands]); rw [hx] at h3
    have h3 := repV_p h3
    generalize hv : a.eval x = v at h3
    have b1 := bnd_val (fun y e => repV_nm (hr y (by simp [ho, Op.operands, e]))) hlo
    have b2 := bnd_val (fun y e => repV_nm (hr y (by simp [ho, Op.operands, e]))) hhi
    obtain ⟨s, hs⟩ := Option.isSome_iff_exists.1 hsz
    obtain ⟨el, hU, hs⟩ := elSize_spec hs
    obtain rfl : h = 0 := by omega
    obtain rfl : l = 0 := by omega
    cases h3
    have hb := run_bnd (P := P) (isS := true) (n := 0) (cap := 0) b1 b2 h1 (by omega) w
    exact ⟨.slice none 0 0, by simp [execOp, ho, hv, Instr.sliceAt, Instr.slice, run_underlying hU, hb, run_sizeOf hs], .p .nil⟩

theorem run_bnd3 {n cap l h m : Nat} {lo : Option Value} {k1 k2 : IntKind} (hlo : (lo = none ∧ l = 0) ∨ ∃ k, lo = some (.int k l)) (h1 : l ≤ h) (h2 : h ≤ m) (h3 : m ≤ cap) (w : World) :
    (Instr.sliceBounds true n cap lo (some (.int k1 h)) (some (.int k2 m))).run P w = .ok (l, h, m) w := by
  unfold Instr.sliceBounds
  rcases hlo with ⟨rfl, rfl⟩ | ⟨k, rfl⟩
  · simp [Instr.sliceBound, asIntOf, show m ≤ cap by omega, show h ≤ m by omega]
  · simp [Instr.sliceBound, asIntOf, show m ≤ cap by omega, show h ≤ m by omega, show l ≤ h by omega]

theorem y_sl3V {t : TypeId} {x : Operand} {lo : Option Operand} {hi mx : Operand} {id f n s : Nat} {m : Option Nat} {l h c : Nat} {k1 k2 : IntKind} (ho : o.op = .slice t x lo (some hi) (some mx)) (hx : evS sl x = .view id f n s m) (hsz : (elSize P t).isSome = true)
    (hlo : (lo = none ∧ l = 0) ∨ ∃ y k, lo = some y ∧ (evS sl y).nm = .p (.sc (.int k l))) (hhi : (evS sl hi).nm = .p (.sc (.int k1 h))) (hmx : (evS sl mx).nm = .p (.sc (.int k2 c))) (h1 : l ≤ h) (h2 : h ≤ c) (h3 : c ≤ n) : AYld P sl o .any :=
  yld_raw fun w0 M0 F tb g a w hw hr => by
    have e1 := hr x (by simp [ho, Op.operands]); rw [hx] at e1
    have e2 := repV_nm (hr hi (by cases lo <;> simp [ho, Op.operands])); rw [hhi] at e2
    have e3 := repV_nm (hr mx (by cases lo <;> simp [ho, Op.operands])); rw [hmx] at e3
    have e2 := y_nil_sc e2
    have e3 := y_nil_sc e3
    have e4 : (lo.map a.eval = none ∧ l = 0) ∨ ∃ k, lo.map a.eval = some (.int k l) := by
      rcases hlo with ⟨rfl, rfl⟩ | ⟨y, k, rfl, hy⟩
      · exact .inl ⟨rfl, rfl⟩
      · have := repV_nm (hr y (by simp [ho, Op.operands])); rw [hy] at this
        exact .inr ⟨k, by simp [y_nil_sc this]⟩
    obtain ⟨s', hs'⟩ := Option.isSome_iff_exists.1 hsz
    obtain ⟨el, hU, hs⟩ := elSize_spec hs'
    generalize hv : a.eval x = v at e1
    cases e1 with
    | view e h4 h5 h6 hm =>
      rename_i b cc ad
      have hb := run_bnd3 (P := P) (n := n) (cap := cc - f) (k1 := k1) (k2 := k2) e4 h1 h2 (by omega) w
      exact ⟨.slice (if c = l then ad else Option.map (fun x => x.add (l * s')) ad) (h - l) (c - l), by simp [execOp, ho, hv, e2, e3, Instr.sliceAt, Instr.slice, run_underlying hU, hb, run_sizeOf hs], .any _⟩

theorem y_sl3L {t : TypeId} {x : Operand} {lo : Option Operand} {hi mx : Operand} {xs : List PC} {l h : Nat} {k1 k2 : IntKind} (ho : o.op = .slice t x lo (some hi) (some mx)) (hx : (evS sl x).nm = .p (.sl xs)) (hsz : (elSize P t).isSome = true) (hwd : ∀ y ∈ xs, elSize P t = some y.width)
    (hlo : (lo = none ∧ l = 0) ∨ ∃ y k, lo = some y ∧ (evS sl y).nm = .p (.sc (.int k l))) (hhi : (evS sl hi).nm = .p (.sc (.int k1 h))) (hmx : (evS sl mx).nm = .p (.sc (.int k2 h))) (h1 : l ≤ h) (h3 : h ≤ xs.length) : AYld P sl o (.full ((xs.take h).drop l)) :=
  yld_raw fun w0 M0 F tb g a w hw hr => by
    have e1 := repV_nm (hr x (by simp [ho, Op.operands])); rw [hx] at e1
    have e2 := repV_nm (hr hi (by cases lo <;> simp [ho, Op.operands])); rw [hhi] at e2
    have e3 := repV_nm (hr mx (by cases lo <;> simp [ho, Op.operands])); rw [hmx] at e3
    have e2 := y_nil_sc e2
    have e3 := y_nil_sc e3
    have e4 : (lo.map a.eval = none ∧ l = 0) ∨ ∃ k, lo.map a.eval = some (.int k l) := by
      rcases hlo with ⟨rfl, rfl⟩ | ⟨y, k, rfl, hy⟩
      · exact .inl ⟨rfl, rfl⟩
      · have := repV_nm (hr y (by simp [ho, Op.operands])); rw [hy] at this
        exact .inr ⟨k, by simp [y_nil_sc this]⟩
    obtain ⟨es, hes⟩ := Option.isSome_iff_exists.1 hsz
    obtain ⟨el, hU, hs⟩ := elSize_spec hes
    have e1 := repV_p e1
    generalize hv : a.eval x = v at e1
    cases e1 with
    | nilsl =>
      simp at h3
      obtain rfl : h = 0 := by omega
      obtain rfl : l = 0 := by omega
      have hb := run_bnd3 (P := P) (n := 0) (cap := 0) (k1 := k1) (k2 := k2) e4 h1 (Nat.le_refl 0) (by omega) w
      simp only [Int.ofNat_eq_natCast, Int.natCast_zero] at hb e2 e3
      exact ⟨.slice none 0 0, by simp [execOp, ho, hv, e2, e3, Instr.sliceAt, Instr.slice, run_underlying hU, hb, run_sizeOf hs], by simpa using RepV.full (g := g) (a := none) (n := 0) .nilsl⟩
    | sl0 ad =>
      simp at h3
      obtain rfl : h = 0 := by omega
      obtain rfl : l = 0 := by omega
      have hb := run_bnd3 (P := P) (n := 0) (cap := 0) (k1 := k1) (k2 := k2) e4 h1 (Nat.le_refl 0) (by omega) w
      simp only [Int.ofNat_eq_natCast, Int.natCast_zero] at hb e2 e3
      exact ⟨.slice (some ad) 0 0, by simp [execOp, ho, hv, e2, e3, Instr.sliceAt, Instr.slice, run_underlying hU, hb, run_sizeOf hs], by simpa using RepV.full (g := g) (a := some ad) (n := 0) (.sl0 ad)⟩
    | sl hl hc hm hs0 hu h1c hat hrs =>
      rename_i b off n cap sz us
      have hlx := hrs.length
      have hn : n = xs.length := by omega
      have hb := run_bnd3 (P := P) (n := n) (cap := cap) (k1 := k1) (k2 := k2) e4 h1 (Nat.le_refl h) (by omega) w
      have hes' : 0 < xs.length → es = sz := fun hp => by
        have hy := hwd (xs[0]'hp) (List.getElem_mem hp)
        obtain ⟨u, hu1, hu2⟩ := hrs.get (i := 0) (List.getElem?_eq_getElem hp)
        have : u.cells.size = sz := hu u (List.mem_of_getElem? hu1)
        rw [rep_width hu2] at this
        rw [hes] at hy; injection hy with hy; omega
      have hoff : (if h = l then (some (⟨b, off, none⟩ : Addr)) else some ⟨b, off + l * es, none⟩) = some ⟨b, off + (if h = l then 0 else l * es), none⟩ := by split <;> simp
      refine ⟨.slice (some ⟨b, off + (if h = l then 0 else l * es), none⟩) (h - l) (h - l), ?_, .full ?_⟩
      · rw [← hoff]
        simp [execOp, ho, hv, e2, e3, Instr.sliceAt, Instr.slice, run_underlying hU, hb, run_sizeOf hs, Addr.add_lit]
      · have hus : ∀ u ∈ (us.take h).drop l, u.cells.size = sz := fun u hu' => hu u (List.mem_of_mem_take (List.mem_of_mem_drop hu'))
        refine .sl (sz := sz) (us := (us.take h).drop l) (by simp; omega) (by omega) (by omega) hs0 hus (fun v hv => h1c v (by
          obtain ⟨u, hu1, hu2⟩ := List.mem_flatMap.1 hv
          exact List.mem_flatMap.2 ⟨u, List.mem_of_mem_take (List.mem_of_mem_drop hu1), hu2⟩)) ?_ ((hrs.take h).drop l)
        by_cases hcl : h = l
        · have : (us.take h).drop l = [] := by apply List.drop_eq_nil_of_le; simp; omega
          rw [this]; intro j v e; simp [cellsOf] at e
        · rw [if_neg hcl, hes' (by omega)]
          refine At.sub hat (fun j v e => ?_)
          have hus' : ∀ u ∈ us.take h, u.cells.size = sz := fun u hu' => hu u (List.mem_of_mem_take hu')
          exact cellsOf_take us hu h _ v (cellsOf_drop (us.take h) hus' l (by simp; omega) j v e)

theorem opR_yld {k : AV → Prop} (h : opR P o.op (evS sl) k) : ∃ x, k x ∧ AYld P sl o x := by
  unfold opR at h
  split at h
  · rename_i t x i ho
    unfold iaQ at h
    split at h
    · rename_i id f n s m hx
      split at h
      · rename_i kd j hi
        obtain ⟨h1, h2, h3, h⟩ := h
        exact ⟨_, h, y_iaV ho hx hi h1 h2 h3⟩
      · exact h.elim
    · rename_i id off hx
      split at h
      · rename_i kd j m s a hi hf
        obtain ⟨h1, h2, h⟩ := h
        exact ⟨_, h, y_iaO ho hx hi hf h1 h2⟩
      · exact h.elim
    · exact opQ_yld (by rw [ho]; exact h)
  · rename_i t x lo hi ho
    unfold slQ at h
    split at h
    · rename_i id f n s m hx
      obtain ⟨h1, hfm, h⟩ := h
      unfold bndV at h
      split at h
      · rename_i l hh e1 e2
        obtain ⟨c1, c2, h4, h5, h6⟩ := h
        exact ⟨_, h6, y_slV ho hx h1 (bnd_of e1 c1) (bnd_of e2 c2) h4 (.inr ⟨m, rfl, by omega⟩)⟩
      · exact h.elim
    · rename_i id f n s hx
      obtain ⟨h1, h⟩ := h
      unfold bndV at h
      split at h
      · rename_i l hh e1 e2
        obtain ⟨c1, c2, h4, h5, h6⟩ := h
        exact ⟨_, h6, y_slV ho hx h1 (bnd_of e1 c1) (bnd_of e2 c2) h4 (.inl h5)⟩
      · exact h.elim
    · rename_i hx
      obtain ⟨h1, h⟩ := h
      unfold bndV at h
      split at h
      · rename_i l hh e1 e2
        obtain ⟨c1, c2, h4, h5, h6⟩ := h
        exact ⟨_, h6, y_slN ho hx h1 (bnd_of e1 c1) (bnd_of e2 c2) h4 h5⟩
      · exact h.elim
    · exact opQ_yld (by rw [ho]; exact h)
  · rename_i t x hi mx ho
    unfold sl3 at h
    split at h
    · rename_i id f n s m hx
      split at h
      · rename_i kl l kh h' km m' hl hh hm
        obtain ⟨h1, h2, h3, h4, h5, h⟩ := h
        injection hl with hl; injection hl with hl; injection hl with hl1 hl2
        subst hl2
        exact ⟨_, h, y_sl3V (l := 0) (h := h'.toNat) (c := m'.toNat) ho hx h1 (.inl ⟨rfl, rfl⟩) (by rw [hh, Int.toNat_of_nonneg (by omega)]) (by rw [hm, Int.toNat_of_nonneg (by omega)]) (by omega) (by omega) (by omega)⟩
      · exact h.elim
    · split at h
      · rename_i xs kl l kh h' km m' hx hl hh hm
        obtain ⟨h1, h2, h3, h4, h5, h6, h⟩ := h
        injection hl with hl; injection hl with hl; injection hl with hl1 hl2
        subst hl2; subst h5
        exact ⟨_, h, y_sl3L (l := 0) (h := h'.toNat) ho hx h1 h2 (.inl ⟨rfl, rfl⟩) (by rw [hh, Int.toNat_of_nonneg (by omega)]) (by rw [hm, Int.toNat_of_nonneg (by omega)]) (by omega) (by omega)⟩
      · exact h.elim
  · rename_i t x lo hi mx ho
    unfold sl3 at h
    split at h
    · rename_i id f n s m hx
      split at h
      · rename_i kl l kh h' km m' hl hh hm
        obtain ⟨h1, h2, h3, h4, h5, h⟩ := h
        exact ⟨_, h, y_sl3V (l := l.toNat) (h := h'.toNat) (c := m'.toNat) ho hx h1 (.inr ⟨lo, kl, rfl, by rw [hl, Int.toNat_of_nonneg (by omega)]⟩) (by rw [hh, Int.toNat_of_nonneg (by omega)]) (by rw [hm, Int.toNat_of_nonneg (by omega)]) (by omega) (by omega) (by omega)⟩
      · exact h.elim
    · split at h
      · rename_i xs kl l kh h' km m' hx hl hh hm
        obtain ⟨h1, h2, h3, h4, h5, h6, h⟩ := h
        subst h5
        exact ⟨_, h, y_sl3L (l := l.toNat) (h := h'.toNat) ho hx h1 h2 (.inr ⟨lo, kl, rfl, by rw [hl, Int.toNat_of_nonneg (by omega)]⟩) (by rw [hh, Int.toNat_of_nonneg (by omega)]) (by rw [hm, Int.toNat_of_nonneg (by omega)]) (by omega) (by omega)⟩
      · exact h.elim
  · rename_i c ho
    split at h
    · rename_i hc
      obtain ⟨h1, h2, h⟩ := h
      have ea := one_arg h1 (.tmp 0)
      have et := one_arg h2 0
      unfold lenQ at h
      split at h
      · rename_i hx; exact ⟨_, h.2, y_lenV ho hc ea et hx h.1⟩
      · exact opQ_yld (by rw [ho]; unfold opQ opE; simp only [hc]; exact ⟨h1, h2, h⟩)
    · rename_i hc
      obtain ⟨h1, h2, h⟩ := h
      have ea := one_arg h1 (.tmp 0)
      have et := one_arg h2 0
      unfold capQ at h
      split at h
      · rename_i hx; exact ⟨_, h.2, y_capV ho hc ea et hx h.1⟩
      · rename_i hx; exact ⟨_, h.2, y_capN ho hc ea et hx h.1⟩
      · rename_i hx; exact ⟨_, h.2, y_capF ho hc ea et hx h.1⟩
      · exact h.elim
    · exact opQ_yld (by rw [ho]; exact h)
  · exact opQ_yld h

end
end Go.Av

/-! part AvArr3 -/
namespace Go.Av
open Go.RowKit

section
variable {P : Program} {st : AS} {o : Oper}

/-- in its own room, whatever is appended -/
theorem appV_core {c : Call} {x y : Operand} {t u e : TypeId} {id f n s m by_ k : Nat} {ob : Ob} {zs : List AV} (ho : o.op = .call c) (hc : c.callee = .builtin .append) (ha : c.args = #[x, y]) (hts : c.argTypes = #[t, u])
    (hx : evS st.sl x = .view id f n s (some m)) (hl : lk id st.tb.bx = some ob) (hsz : ob.sz = s) (hel : elTy P t = some (e, s, by_)) (hf : (f + n) * s ≤ ob.xs.length) (hroom : f + n + k ≤ m) (hzl : zs.length = k * s)
    (hsrc : ∀ (w0 : World) (M0 : Mem) (F : Nat → Prop) (g : G) (v : Value) (w : World), SatW w0 M0 F st.tb g w → RepV g v (evS st.sl y) → ∃ cs, Src P u s v k cs w ∧ RepVs g cs zs) :
    TYld P st o (.view id f (n + k) s (some m)) (st.tb.setOb id { ob with xs := ob.xs.take ((f + n) * s) ++ zs ++ ob.xs.drop ((f + n) * s + k * s) }) :=
  tyld_value fun w0 M0 F g a w hw h => by
    have h1 := h x (by rw [ho]; simp [Op.operands, Call.operands, hc, ha]); rw [hx] at h1
    have h2 := h y (by rw [ho]; simp [Op.operands, Call.operands, hc, ha])
    obtain ⟨cs, hsrc, hz⟩ := hsrc w0 M0 F g _ w hw h2
    obtain ⟨hU, i, z, hi, _, hisz, hiby, hzs⟩ := elTy_spec hel
    generalize hv : a.eval x = v at h1
    cases h1 with
    | view e h3 h4 h5 hm =>
      rename_i b cc ad
      obtain rfl := hm _ rfl
      have hv2 : VAddr (ad.map fun a => a.add (n * s)) b cc (f + n) s := by
        cases h5 with
        | real off hcp had h5 =>
          subst had
          refine .real (off + n * s) hcp (by simp [Addr.add_lit]) fun hh => ?_
          rw [h5 (by omega), Nat.add_mul]
        | void h0 hva =>
          refine .void h0 ?_
          rcases hva with rfl | ⟨a', rfl⟩
          · exact .inl rfl
          · exact .inr ⟨_, rfl⟩
      obtain ⟨w', r1, r0, r2⟩ := row_writeA (P := P) (f := f + n) (n := k) (k := k) hw hl e hsz hroom hv2 hz hsrc.one (Nat.le_refl _) hzl hf
      rw [hzl] at r2
      refine ⟨.slice ad (n + k) (cc - f), w', g, ?_, G.le_refl g, r2, .view e (by omega) h4 h5 hm⟩
      rw [run_append2 ho hc ha hts, hv]
      obtain ⟨q1, q2, q3, _, _, _⟩ := hsrc
      have hfit : n + k ≤ cc - f := by omega
      subst hisz
      have : (Builtin.append_ #[t, u] o.type #[.slice ad n (cc - f), a.eval y]).run P w = .ok (.slice ad (n + k) (cc - f)) w' := by
        cases ad with
        | none =>
          obtain rfl := r0 rfl
          rcases q1 with ⟨e', q1⟩ | q1 <;> simp [Builtin.append_, run_underlying hU, run_underlying q1, sizeOf, typeInfo, hi, q2, hfit, q3]
        | some ad =>
          have r1 := r1 _ rfl
          rcases q1 with ⟨e', q1⟩ | q1 <;> simp [Builtin.append_, run_underlying hU, run_underlying q1, sizeOf, typeInfo, hi, q2, hfit, q3, r1]
      rw [this]; rfl

/-- .. a list that lasts -/
theorem src_L {u : TypeId} {s : Nat} {ys : List PC} (hu : (elSize P u).isSome = true) (hw' : ∀ y ∈ ys, y.width = s) (hn : ∀ y ∈ ys, noTup y = true) {w0 : World} {M0 : Mem} {F : Nat → Prop} {tb : Tb} {g : G} {v : Value} {w : World}
    (hw : SatW w0 M0 F tb g w) (hv : RepV g v (.p (.sl ys))) : ∃ cs, Src P u s v ys.length cs w ∧ RepVs g cs (ys.flatMap pcCells) := by
  obtain ⟨ad, cap, us, hsl⟩ := isSl_of (repV_p hv)
  exact ⟨_, src_isSl (P := P) hu hsl hw' (w := w) hw.holds, reps_cells hsl.hus hn⟩

theorem cells_len {s : Nat} : ∀ (l : List PC), (∀ y ∈ l, y.width = s) → (l.flatMap pcCells).length = l.length * s
  | [], _ => by simp
  | z :: l, h => by
    have hz := h z (by simp)
    have e : (pcCells z).length = s := by
      rw [← hz]; cases z with
      | agg b l => cases b <;> simp [pcCells, PC.width]
      | _ => rfl
    simp only [List.flatMap_cons, List.length_append, List.length_cons]
    rw [cells_len l fun q hq => h q (by simp [hq]), e, Nat.succ_mul]; omega

end
end Go.Av

/-! part AvArr4 -/
namespace Go.Av
open Go.RowKit

section
variable {P : Program} {st : AS} {o : Oper}

theorem zeros_one {z : Array Value} (h : ∀ v ∈ z.toList, v.oneCell' = true) {n : Nat} : ∀ v ∈ (Builtin.zeroCells z n).toList, v.oneCell' = true := by
  intro v hv
  rcases Nat.eq_zero_or_pos z.size with h0 | h0
  · have : (Builtin.zeroCells z n).toList = [] := List.eq_nil_of_length_eq_zero (by simp [size_zeroCells, h0])
    rw [this] at hv; cases hv
  · rw [zero_cells h0, List.mem_flatten] at hv
    obtain ⟨l, hl, hv⟩ := hv
    rw [List.mem_replicate] at hl
    rw [hl.2] at hv; exact h v hv

theorem grow_core {t u ty e : TypeId} {s by_ n cap k : Nat} {w0 : World} {M0 : Mem} {F : Nat → Prop} {tb : Tb} {g : G} {w : World} (hw : SatW w0 M0 F tb g w) (hel : elTy P t = some (e, s, by_)) {ad : Option Addr} {y : Value} {olds news : List Value} {zo zs : List AV}
    (hold : (Builtin.firstCells s n (.slice ad n cap)).run P w.drew = .ok olds.toArray w.drew) (ho : RepVs g olds zo) (ho1 : ∀ v ∈ olds, v.oneCell' = true) (hol : zo.length = n * s) (hsrc : Src P u s y k news w) (hz : RepVs g news zs)
    (hgrow : cap < n + k) (hbound : (n + k) * by_ ≤ 140737488355328) (hmax : n + k ≤ 9223372036854775807) :
    ∃ v' w' g', (Builtin.append_ #[t, u] ty #[.slice ad n cap, y]).run P w = .ok v' w' ∧ g.le g' ∧ SatW w0 M0 F (tb.addOb ⟨e, s, zo ++ zs⟩) g' w' ∧ RepV g' v' (.view tb.nx 0 (n + k) s none) := by
  obtain ⟨hU, i, z, hi, hzv, hisz, hiby, hzs⟩ := elTy_spec hel
  subst hisz
  have hfit : Builtin.nextslicecap (n + k) cap * i.bytes ≤ 281474976710656 := growslice_fits hgrow (by rw [hiby]; exact hbound)
  have hrun := run_app_grow (P := P) (ty := ty) hU hi hzv rfl hold hsrc hgrow hmax hfit
  have hge := grownCap_ge w (n + k) cap e
  have hcm := grownCap_le_maxLen w (n + k) cap e (by unfold maxLen; omega)
  generalize grownCap w (n + k) cap e = C at *
  have hlo := ho.length
  have hlz := hz.length
  have hnum := hsrc.num
  have hcur : (olds.toArray ++ news.toArray ++ Builtin.zeroCells z.cells (C - (n + k))).size = C * i.size := by
    simp only [Array.size_append, List.size_toArray, size_zeroCells, hzs, hlo, hol, hnum]
    rw [← Nat.add_mul, ← Nat.add_mul]; congr 1; omega
  have hB : Below w.drew.heap.size w.drew (w.drew.alloc (.cells (olds.toArray ++ news.toArray ++ Builtin.zeroCells z.cells (C - (n + k))) e)) := (Below.refl _ _).alloc (Nat.le_refl _) _
  have hlen : (zo ++ zs).length = (olds ++ news).length := by simp [hlo, hlz]
  have htake : (olds.toArray ++ news.toArray ++ Builtin.zeroCells z.cells (C - (n + k))).toList.take (zo ++ zs).length = olds ++ news := by
    rw [hlen]
    simp only [Array.toList_append]
    rw [List.take_append_of_le_length (by simp)]
    exact List.take_of_length_le (by simp)
  have hle : (zo ++ zs).length ≤ (olds.toArray ++ news.toArray ++ Builtin.zeroCells z.cells (C - (n + k))).size := by rw [hlen]; simp only [Array.size_append, List.size_toArray, List.length_append]; omega
  have key := hw.drew.newOb (o := ⟨e, i.size, zo ++ zs⟩) (c := C) hB (heap_alloc_new w.drew _) hcur hcm hle (by rw [htake]; exact ho.append hz)
    (by
      intro v hv
      simp only [Array.toList_append, List.mem_append] at hv
      rcases hv with (hv | hv) | hv
      · exact ho1 v (by simpa using hv)
      · exact hsrc.one v (by simpa using hv)
      · exact zeros_one (elTy_one hel hi hzv) v hv)
  exact ⟨_, _, _, hrun, hw.drew.leOb _ _, key, by
    have := RepV.view (g := g.obAt tb.nx w.drew.heap.size C) (id := tb.nx) (b := w.drew.heap.size) (c := C) (o := 0) (n := n + k) (s := i.size) (a := some ⟨w.drew.heap.size, 0, none⟩) (m := none) (by simp [G.obAt]) (by omega) hcm (.real 0 (by omega) rfl (fun _ => by simp)) (by simp)
    simpa using this⟩

end
end Go.Av

/-! part AvArr5 -/
namespace Go.Av
open Go.RowKit

section
variable {P : Program} {st : AS} {o : Oper} {w0 : World} {M0 : Mem} {F : Nat → Prop} {tb : Tb} {g : G} {w w' : World}

/-- A row under another name, of which less is known. -/
theorem SatW.moveOb (h : SatW w0 M0 F tb g w) {id b c : Nat} {ob ob' : Ob} (hl : lk id tb.bx = some ob) (he : g.ob id = some (b, c)) (hel : ob'.el = ob.el) (hsz : ob'.sz = ob.sz) {n : Nat} (hx : ob'.xs = ob.xs.take n) :
    SatW w0 M0 F ((tb.delOb id).addOb ob') (g.obAt tb.nx b c) w := by
  have hle := h.leOb b c
  have hid : id < tb.nx := h.nx_ob he
  refine ⟨h.holds, h.keep, h.old, h.mle, fun i p e => ?_, fun i el sz e => ?_, fun i j p q b1 c1 b2 c2 ei ej hij e1 e2 p1 p2 => ?_, h.rw_ne, fun i j p r b1 c1 v ei ej e1 e2 p1 => ?_, fun i hi => ?_⟩
  · simp only [Tb.addOb, Tb.delOb, lk_cons] at e
    split at e
    · rename_i hi; subst hi; injection e with e; subst e
      refine ⟨b, c, by simp [G.obAt], fun hc => ?_, fun hc => ?_⟩
      · obtain ⟨cur, f2, f3, f4, f5, f6, f7, f8, f9⟩ := (h.boxes id ob hl).real he hc
        have hlen : ob'.xs.length ≤ ob.xs.length := by rw [hx, List.length_take]; omega
        have hsub : cur.toList.take ob'.xs.length = (cur.toList.take ob.xs.length).take ob'.xs.length := by rw [List.take_take, Nat.min_eq_left hlen]
        have hxs : ob'.xs = ob.xs.take ob'.xs.length := by rw [hx, List.length_take, ← List.take_take, List.take_length]
        refine ⟨cur, f2, f3, by rw [hel]; exact f4, by rw [hsz]; exact f5, f6, by omega, ?_, f9⟩
        · rw [hsub]
          have := (f8.mono hle).take ob'.xs.length
          rw [← hxs] at this; exact this
      · obtain ⟨b', c', h1, _, h2⟩ := h.boxes id ob hl
        rw [h1] at he; injection he with he; injection he with e1 e2; subst e1; subst e2
        rw [hx, h2 hc]; simp
    · rename_i hi
      rw [lk_del] at e
      split at e
      · cases e
      · obtain ⟨b1, c1, f1, fr, f0⟩ := h.boxes i p e
        refine ⟨b1, c1, hle.ob _ _ f1, fun hp => ?_, f0⟩
        obtain ⟨cur1, f2, f3, f4, f5, f6, f7, f8, f9⟩ := fr hp
        exact ⟨cur1, f2, f3, f4, f5, f6, f7, f8.mono hle, f9⟩
  · obtain ⟨v, f1, f2⟩ := h.rows i el sz e
    exact ⟨v, f1, f2⟩
  · simp only [Tb.addOb, Tb.delOb, lk_cons, lk_del] at ei ej
    simp only [G.obAt] at e1 e2
    split at ei
    · rename_i hi; rw [if_pos hi] at e1; injection e1 with e1; injection e1 with e1 e1'; subst e1; subst e1'
      split at ej
      · rename_i hj; omega
      · rename_i hj; rw [if_neg hj] at e2
        split at ej
        · cases ej
        · rename_i hjd; exact h.ob_ne id j ob q b c b2 c2 hl ej (fun hh => hjd hh.symm) he e2 p1 p2
    · rename_i hi; rw [if_neg hi] at e1
      split at ei
      · cases ei
      · rename_i hid'
        split at ej
        · rename_i hj; rw [if_pos hj] at e2; injection e2 with e2; injection e2 with e2 e2'; subst e2; subst e2'
          exact h.ob_ne i id p ob b1 c1 b c ei hl hid' e1 he p1 p2
        · rename_i hj; rw [if_neg hj] at e2
          split at ej
          · cases ej
          · exact h.ob_ne i j p q b1 c1 b2 c2 ei ej hij e1 e2 p1 p2
  · simp only [Tb.addOb, Tb.delOb, lk_cons, lk_del] at ei
    simp only [G.obAt] at e1
    split at ei
    · rename_i hi; rw [if_pos hi] at e1; injection e1 with e1; injection e1 with e1 e1'; subst e1; subst e1'
      exact h.ob_rw id j ob r b c v hl ej he e2 p1
    · rename_i hi; rw [if_neg hi] at e1
      split at ei
      · cases ei
      · exact h.ob_rw i j p r b1 c1 v ei ej e1 e2 p1
  · simp only [Tb.addOb, Tb.delOb] at hi
    have := h.fresh i (by omega)
    simp only [G.obAt]; rw [if_neg (by omega)]; exact this

/-- A row without room: nothing is known of it, it lies nowhere. -/
theorem SatW.voidOb (h : SatW w0 M0 F tb g w) (el : TypeId) (sz : Nat) : SatW w0 M0 F (tb.addOb ⟨el, sz, []⟩) (g.obAt tb.nx 0 0) w := by
  have hle := h.leOb 0 0
  refine ⟨h.holds, h.keep, h.old, h.mle, fun i p e => ?_, fun i el sz e => ?_, fun i j p q b1 c1 b2 c2 ei ej hij e1 e2 p1 p2 => ?_, h.rw_ne, fun i j p r b1 c1 v ei ej e1 e2 p1 => ?_, fun i hi => ?_⟩
  · simp only [Tb.addOb, lk_cons] at e
    split at e
    · rename_i hi; subst hi; injection e with e; subst e
      exact ⟨0, 0, by simp [G.obAt], fun hc => absurd hc (by omega), fun _ => rfl⟩
    · obtain ⟨b1, c1, f1, fr, f0⟩ := h.boxes i p e
      refine ⟨b1, c1, hle.ob _ _ f1, fun hp => ?_, f0⟩
      obtain ⟨cur1, f2, f3, f4, f5, f6, f7, f8, f9⟩ := fr hp
      exact ⟨cur1, f2, f3, f4, f5, f6, f7, f8.mono hle, f9⟩
  · obtain ⟨v, f1, f2⟩ := h.rows i el sz e
    exact ⟨v, f1, f2⟩
  · simp only [Tb.addOb, lk_cons] at ei ej
    simp only [G.obAt] at e1 e2
    split at ei
    · rename_i hi; rw [if_pos hi] at e1; injection e1 with e1; injection e1 with e1 e1'; omega
    · rename_i hi; rw [if_neg hi] at e1
      split at ej
      · rename_i hj; rw [if_pos hj] at e2; injection e2 with e2; injection e2 with e2 e2'; omega
      · rename_i hj; rw [if_neg hj] at e2; exact h.ob_ne i j p q b1 c1 b2 c2 ei ej hij e1 e2 p1 p2
  · simp only [Tb.addOb, lk_cons] at ei
    simp only [G.obAt] at e1
    split at ei
    · rename_i hi; rw [if_pos hi] at e1; injection e1 with e1; injection e1 with e1 e1'; omega
    · rename_i hi; rw [if_neg hi] at e1; exact h.ob_rw i j p r b1 c1 v ei ej e1 e2 p1
  · simp only [Tb.addOb] at hi
    have := h.fresh i (by omega)
    simp only [G.obAt]; rw [if_neg (by omega)]; exact this

/-! ### what is appended -/

def SrcOk (P : Program) (tb : Tb) (u : TypeId) (s : Nat) (y : AV) (k : Nat) (zs : List AV) : Prop :=
  zs.length = k * s ∧ ∀ (w0 : World) (M0 : Mem) (F : Nat → Prop) (g : G) (v : Value) (w : World), SatW w0 M0 F tb g w → RepV g v y → ∃ cs, Src P u s v k cs w ∧ RepVs g cs zs

theorem srcOk_V {u : TypeId} {s id' f' n' : Nat} {m' : Option Nat} {ob' : Ob} (hu : (elSize P u).isSome = true) (hl' : lk id' tb.bx = some ob') (hf' : (f' + n') * s ≤ ob'.xs.length) :
    SrcOk P tb u s (.view id' f' n' s m') n' ((ob'.xs.drop (f' * s)).take (n' * s)) := by
  have hzl : ((ob'.xs.drop (f' * s)).take (n' * s)).length = n' * s := by
    rw [List.length_take, List.length_drop]; rw [Nat.add_mul] at hf'; omega
  refine ⟨hzl, fun w0 M0 F g v w hw hv => ?_⟩
  obtain ⟨el, hU⟩ := elSl hu
  cases hv with
  | view e h3 h4 h5 hm =>
    rename_i b cc ad
    by_cases hk0 : n' * s = 0
    · refine ⟨[], ⟨.inl ⟨el, hU⟩, by simp [Builtin.lenOf], ?_, ?_, by simp, by simp [hk0]⟩, ?_⟩
      · cases ad <;> simp only [Builtin.firstCells, hk0] <;> rfl
      · cases ad <;> simp only [Builtin.firstCells, hk0] <;> rfl
      · rw [List.eq_nil_of_length_eq_zero (l := (ob'.xs.drop (f' * s)).take (n' * s)) (by omega)]; exact .nil
    · have hkp : 0 < n' := Nat.pos_of_ne_zero fun h => hk0 (by rw [h]; simp)
      cases h5 with
      | void h0 _ => omega
      | real off hcp had h5 =>
      subst had
      obtain rfl := h5 (.inl (by omega))
      obtain ⟨cs, r1, r2, r3, r4, r5⟩ := row_cells (P := P) hw hl' e (f' * s) (n' * s) (by rw [← Nat.add_mul]; exact hf')
      exact ⟨cs, ⟨.inl ⟨el, hU⟩, by simp [Builtin.lenOf], by simp only [Builtin.firstCells]; exact r2, by simp only [Builtin.firstCells]; exact r5, r4, r1⟩, r3⟩

theorem srcOk_L {u : TypeId} {s : Nat} {y : AV} {ys : List PC} (hu : (elSize P u).isSome = true) (hy : y.nm = .p (.sl ys)) (hw' : ∀ y ∈ ys, y.width = s) (hn : ∀ y ∈ ys, noTup y = true) : SrcOk P tb u s y ys.length (ys.flatMap pcCells) :=
  ⟨cells_len ys hw', fun w0 M0 F g v w hw hv => src_L hu hw' hn hw (by rw [← hy]; exact repV_nm hv)⟩

theorem srcOk_N {u : TypeId} {s : Nat} {y : AV} (hu : (elSize P u).isSome = true) (hy : y.nm = .p .nil) : SrcOk P tb u s y 0 [] := by
  refine ⟨by simp, fun w0 M0 F g v w hw hv => ?_⟩
  obtain ⟨el, hU⟩ := elSl hu
  have hv := repV_nm hv
  rw [hy] at hv
  have := repV_p hv
  cases this
  exact ⟨[], ⟨.inl ⟨el, hU⟩, by simp [Builtin.lenOf], by simp [Builtin.firstCells], by simp [Builtin.firstCells], by simp, by simp⟩, .nil⟩

theorem srcOk_S {u : TypeId} {y : AV} {b : ByteArray} (hu : isStr P u = true) (hy : y.nm = .p (.sc (.string b))) : SrcOk P tb u 1 y (bs b).length ((bytesPC (bs b)).map .p) := by
  refine ⟨by simp [bytesPC], fun w0 M0 F g v w hw hv => ?_⟩
  have hv := repV_nm hv
  rw [hy] at hv
  have := y_nil_sc hv
  subst this
  refine ⟨_, src_str (P := P) hu, ?_⟩
  have : ∀ l : List UInt8, RepVs g (l.map fun b => Value.int .u8 b.toNat) ((bytesPC l).map .p) := fun l => by
    induction l with
    | nil => exact .nil
    | cons x l ih => exact .cons (.p (.sc _ rfl)) ih
  exact this _

def srcW (P : Program) (tb : Tb) (u : TypeId) (s : Nat) (k : Nat → List AV → Prop) : AV → Prop
  | .view id f n s' _ => s' = s ∧ (elSize P u).isSome = true ∧ (match lk id tb.bx with
    | some ob => (f + n) * s ≤ ob.xs.length ∧ k n ((ob.xs.drop (f * s)).take (n * s))
    | none => False)
  | y => match y.nm with
    | .p (.sl ys) => (elSize P u).isSome = true ∧ (∀ y ∈ ys, y.width = s) ∧ (∀ y ∈ ys, noTup y = true) ∧ k ys.length (ys.flatMap pcCells)
    | .p .nil => (elSize P u).isSome = true ∧ k 0 []
    | .p (.sc (.string b)) => s = 1 ∧ isStr P u = true ∧ k (bs b).length ((bytesPC (bs b)).map .p)
    | _ => False

theorem srcW_ok {u : TypeId} {s : Nat} {k : Nat → List AV → Prop} {y : AV} (h : srcW P tb u s k y) : ∃ n zs, k n zs ∧ SrcOk P tb u s y n zs := by
  unfold srcW at h
  split at h
  · obtain ⟨rfl, hu, h⟩ := h
    split at h
    · rename_i ob hl; exact ⟨_, _, h.2, srcOk_V hu hl h.1⟩
    · exact h.elim
  · split at h
    · rename_i ys hy; obtain ⟨h1, h2, h3, h⟩ := h; exact ⟨_, _, h, srcOk_L h1 hy h2 h3⟩
    · rename_i hy; exact ⟨_, _, h.2, srcOk_N h.1 hy⟩
    · rename_i b hy; obtain ⟨rfl, h1, h⟩ := h; exact ⟨_, _, h, srcOk_S h1 hy⟩
    · exact h.elim

/-! ### append -/

theorem view_olds {id f n s : Nat} {cc b : Nat} {ad : Option Addr} {ob : Ob} (hw : SatW w0 M0 F tb g w) (hl : lk id tb.bx = some ob) (ee : g.ob id = some (b, cc)) (h3 : f + n ≤ cc) (h5 : VAddr ad b cc f s) (hf : (f + n) * s ≤ ob.xs.length) :
    ∃ os : List Value, (Builtin.firstCells s n (.slice ad n (cc - f))).run P w.drew = .ok os.toArray w.drew ∧ os.length = n * s ∧ RepVs g os ((ob.xs.drop (f * s)).take (n * s)) ∧ ∀ v ∈ os, v.oneCell' = true := by
  rcases Nat.eq_zero_or_pos n with h0 | h0
  · subst h0
    refine ⟨[], ?_, by simp, by simpa using RepVs.nil, by simp⟩
    cases ad <;> simp [Builtin.firstCells, loadCells, loadCellsFrom]
  · cases h5 with
    | void h0 _ => omega
    | real off hcp had h5 =>
    subst had
    obtain rfl := h5 (.inl (by omega))
    obtain ⟨os, r1, r2, r3, r4, r5⟩ := row_cells (P := P) hw hl ee (f * s) (n * s) (by rw [← Nat.add_mul]; exact hf)
    exact ⟨os, by simp only [Builtin.firstCells]; exact r5, r1, r3, r4⟩

section
variable {c : Call} {x y : Operand} {t u e : TypeId} {id f n s m by_ k : Nat} {ob : Ob} {zs : List AV}

/-- in its own room -/
theorem t_appG (ho : o.op = .call c) (hc : c.callee = .builtin .append) (ha : c.args = #[x, y]) (hts : c.argTypes = #[t, u])
    (hx : evS st.sl x = .view id f n s (some m)) (hl : lk id st.tb.bx = some ob) (hsz : ob.sz = s) (hel : elTy P t = some (e, s, by_)) (hf : (f + n) * s ≤ ob.xs.length) (hroom : f + n + k ≤ m) (hy : SrcOk P st.tb u s (evS st.sl y) k zs) :
    TYld P st o (.view id f (n + k) s (some m)) (st.tb.setOb id { ob with xs := ob.xs.take ((f + n) * s) ++ zs ++ ob.xs.drop ((f + n) * s + k * s) }) :=
  appV_core ho hc ha hts hx hl hsz hel hf hroom hy.1 hy.2

/-- into a new row -/
theorem t_growG (ho : o.op = .call c) (hc : c.callee = .builtin .append) (ha : c.args = #[x, y]) (hts : c.argTypes = #[t, u])
    (hx : evS st.sl x = .view id f n s (some m)) (hl : lk id st.tb.bx = some ob) (hel : elTy P t = some (e, s, by_)) (hf : (f + n) * s ≤ ob.xs.length)
    (hy : SrcOk P st.tb u s (evS st.sl y) k zs) (hroom : m - f < n + k) (hbound : (n + k) * by_ ≤ 140737488355328) (hmax : n + k ≤ 9223372036854775807) :
    TYld P st o (.view st.tb.nx 0 (n + k) s none) (st.tb.addOb ⟨e, s, (ob.xs.drop (f * s)).take (n * s) ++ zs⟩) :=
  tyld_value fun w0 M0 F g a w hw h => by
    have h1 := h x (by rw [ho]; simp [Op.operands, Call.operands, hc, ha]); rw [hx] at h1
    have h2 := h y (by rw [ho]; simp [Op.operands, Call.operands, hc, ha])
    obtain ⟨cs, hsrc, hz⟩ := hy.2 w0 M0 F g _ w hw h2
    generalize hv : a.eval x = v at h1
    cases h1 with
    | view ee h3 h4 h5 hm =>
      rename_i b cc ad
      obtain rfl := hm _ rfl
      obtain ⟨os, q0, r1, r3, r4⟩ := view_olds (P := P) hw hl ee h3 h5 hf
      obtain ⟨v', w', g', k1, k2, k3, k4⟩ := grow_core (P := P) (ty := o.type) (n := n) (cap := cc - f) (ad := ad) hw hel q0 r3 r4 (by rw [← r3.length, r1]) hsrc hz hroom hbound hmax
      exact ⟨v', w', g', by rw [run_append2 ho hc ha hts, hv, k1]; rfl, k2, k3, k4⟩

/-- whether there's room or not -/
theorem t_appN (ho : o.op = .call c) (hc : c.callee = .builtin .append) (ha : c.args = #[x, y]) (hts : c.argTypes = #[t, u])
    (hx : evS st.sl x = .view id 0 n s none) (hl : lk id st.tb.bx = some ob) (hsz : ob.sz = s) (hobe : ob.el = e) (hel : elTy P t = some (e, s, by_)) (hf : n * s ≤ ob.xs.length)
    (hy : SrcOk P st.tb u s (evS st.sl y) k zs) (hbound : (n + k) * by_ ≤ 140737488355328) (hmax : n + k ≤ 9223372036854775807) :
    TYld P st o (.view st.tb.nx 0 (n + k) s none) ((st.tb.delOb id).addOb ⟨e, s, ob.xs.take (n * s) ++ zs⟩) :=
  tyld_value fun w0 M0 F g a w hw h => by
    have h1 := h x (by rw [ho]; simp [Op.operands, Call.operands, hc, ha]); rw [hx] at h1
    have h2 := h y (by rw [ho]; simp [Op.operands, Call.operands, hc, ha])
    obtain ⟨cs, hsrc, hz⟩ := hy.2 w0 M0 F g _ w hw h2
    obtain ⟨hU, i, z, hi, _, hisz, hiby, hzs⟩ := elTy_spec hel
    generalize hv : a.eval x = v at h1
    cases h1 with
    | view ee h3 h4 h5 hm =>
      rename_i b cc ad
      by_cases hroom : n + k ≤ cc
      · have hv2 : VAddr (ad.map fun a => a.add (n * s)) b cc (0 + n) s := by
          cases h5 with
          | real off hcp had h5 =>
            subst had
            refine .real (off + n * s) hcp (by simp [Addr.add_lit]) fun hh => ?_
            rw [h5 (by omega), Nat.add_mul]
          | void h0 hva =>
            refine .void h0 ?_
            rcases hva with rfl | ⟨a', rfl⟩
            · exact .inl rfl
            · exact .inr ⟨_, rfl⟩
        obtain ⟨w', r1, r0, r2⟩ := row_writeA (P := P) (f := 0 + n) (n := k) (k := k) hw hl ee hsz (by omega) hv2 hz hsrc.one (Nat.le_refl _) hy.1 (by simpa using hf)
        have hzl := hy.1
        have r3 := r2.moveOb (id := id) (ob := { ob with xs := ob.xs.take ((0 + n) * s) ++ zs ++ ob.xs.drop ((0 + n) * s + zs.length) }) (ob' := ⟨e, s, ob.xs.take (n * s) ++ zs⟩) (n := n * s + k * s) (by simp [Tb.setOb, lk_cons]) ee hobe.symm hsz.symm (by
          simp only [Nat.zero_add]
          have e1 : (ob.xs.take (n * s) ++ zs).length = n * s + k * s := by rw [List.length_append, List.length_take, hzl]; omega
          rw [← e1]; exact (List.take_left' rfl).symm)
        refine ⟨.slice ad (n + k) cc, w', g.obAt st.tb.nx b cc, ?_, hw.leOb _ _, r3.sub (fun i o e => ?_) (fun _ _ e => e) (Nat.le_refl _), ?_⟩
        · rw [run_append2 ho hc ha hts, hv]
          obtain ⟨q1, q2, q3, _, _, _⟩ := hsrc
          have hfit : n + k ≤ cc := by omega
          subst hisz
          have : (Builtin.append_ #[t, u] o.type #[.slice ad n (cc - 0), a.eval y]).run P w = .ok (.slice ad (n + k) cc) w' := by
            cases ad with
            | none =>
              obtain rfl := r0 rfl
              rcases q1 with ⟨e', q1⟩ | q1 <;> simp [Builtin.append_, run_underlying hU, run_underlying q1, sizeOf, typeInfo, hi, q2, hfit, q3]
            | some ad =>
              have r1 := r1 _ rfl
              rcases q1 with ⟨e', q1⟩ | q1 <;> simp [Builtin.append_, run_underlying hU, run_underlying q1, sizeOf, typeInfo, hi, q2, hfit, q3, r1]
          rw [this]; rfl
        · simp only [Tb.addOb, Tb.delOb, Tb.setOb, lk_cons, lk_del] at e ⊢
          split at e
          · rename_i hi; rw [if_pos hi]; exact e
          · rename_i hi; rw [if_neg hi]
            split at e
            · cases e
            · rename_i hid; simp only [if_neg hid] at e ⊢; exact e
        · have := RepV.view (g := g.obAt st.tb.nx b cc) (id := st.tb.nx) (b := b) (c := cc) (o := 0) (n := n + k) (s := s) (a := ad) (m := none) (by simp [G.obAt]) (by omega) h4 h5 (by simp)
          simpa using this
      · obtain ⟨os, q0, r1, r3, r4⟩ := view_olds (P := P) hw hl ee h3 h5 (by simpa using hf)
        obtain ⟨v', w', g', k1, k2, k3, k4⟩ := grow_core (P := P) (ty := o.type) (n := n) (cap := cc - 0) (ad := ad) hw hel q0 r3 r4 (by rw [← r3.length, r1]) hsrc hz (by omega) hbound hmax
        simp only [Nat.zero_mul, List.drop_zero] at k3
        refine ⟨v', w', g', by rw [run_append2 ho hc ha hts, hv, k1]; rfl, k2, k3.sub (fun i o e => ?_) (fun _ _ e => e) (Nat.le_refl _), k4⟩
        simp only [Tb.addOb, Tb.delOb, lk_cons, lk_del] at e ⊢
        split at e
        · rename_i hi; rw [if_pos hi]; exact e
        · rename_i hi; rw [if_neg hi]
          split at e
          · cases e
          · exact e

/-- to nothing -/
theorem t_appM (ho : o.op = .call c) (hc : c.callee = .builtin .append) (ha : c.args = #[x, y]) (hts : c.argTypes = #[t, u])
    (hx : evS st.sl x = .full [] ∨ evS st.sl x = .p .nil) (hel : elTy P t = some (e, s, by_))
    (hy : SrcOk P st.tb u s (evS st.sl y) k zs) (hbound : k * by_ ≤ 140737488355328) (hmax : k ≤ 9223372036854775807) :
    TYld P st o (.view st.tb.nx 0 k s none) (st.tb.addOb ⟨e, s, zs⟩) :=
  tyld_value fun w0 M0 F g a w hw h => by
    have h1 := h x (by rw [ho]; simp [Op.operands, Call.operands, hc, ha])
    have h2 := h y (by rw [ho]; simp [Op.operands, Call.operands, hc, ha])
    obtain ⟨cs, hsrc, hz⟩ := hy.2 w0 M0 F g _ w hw h2
    obtain ⟨hU, i, z, hi, _, hisz, hiby, hzs⟩ := elTy_spec hel
    obtain ⟨ad, hv, hva⟩ : ∃ ad, a.eval x = .slice ad 0 0 ∧ (ad = none ∨ ∃ a', ad = some a') := by
      rcases hx with hx | hx
      · rw [hx] at h1
        generalize a.eval x = v at h1
        cases h1 with
        | full hr => cases hr with
          | nilsl => exact ⟨none, rfl, .inl rfl⟩
          | sl0 a => exact ⟨_, rfl, .inr ⟨_, rfl⟩⟩
          | sl hn _ _ _ _ _ _ hs => have := hs.length; simp at this; rw [this] at hn; simp at hn; subst hn; exact ⟨_, rfl, .inr ⟨_, rfl⟩⟩
      · rw [hx] at h1
        have := repV_p h1
        generalize a.eval x = v at this
        cases this; exact ⟨none, rfl, .inl rfl⟩
    rcases Nat.eq_zero_or_pos k with hk | hk
    · subst hk
      have hz0 : zs = [] := List.eq_nil_of_length_eq_zero (by rw [hy.1]; simp)
      subst hz0
      have hcs : cs = [] := by cases hz; rfl
      subst hcs
      subst hisz
      refine ⟨.slice ad 0 0, w, g.obAt st.tb.nx 0 0, ?_, hw.leOb _ _, hw.voidOb e i.size, ?_⟩
      · rw [run_append2 ho hc ha hts, hv, run_app_zero hU hi hsrc (Nat.le_refl _)]; rfl
      · have := RepV.view (g := g.obAt st.tb.nx 0 0) (id := st.tb.nx) (b := 0) (c := 0) (o := 0) (n := 0) (s := i.size) (a := ad) (m := none) (by simp [G.obAt]) (by omega) (by unfold maxLen; omega) (.void rfl hva) (by simp)
        simpa using this
    · obtain ⟨v', w', g', k1, k2, k3, k4⟩ := grow_core (P := P) (ty := o.type) (n := 0) (cap := 0) (ad := ad) (olds := []) (zo := []) hw hel (by cases ad <;> simp [Builtin.firstCells, loadCells, loadCellsFrom]) .nil (by simp) (by simp) hsrc hz (by omega) (by simpa using hbound) (by omega)
      simp only [Nat.zero_add, List.nil_append] at k3 k4
      exact ⟨v', w', g', by rw [run_append2 ho hc ha hts, hv, k1]; rfl, k2, k3, k4⟩

end
end
end Go.Av

/-! part AvArr6 -/
namespace Go.Av
open Go.RowKit

section
variable {P : Program} {st : AS} {o : Oper} {w0 : World} {M0 : Mem} {F : Nat → Prop} {tb : Tb} {g : G} {w w' : World}

theorem run_app_growZ {t u ty e : TypeId} {i : TypeInfo} {z : Value} {kd kd' : IntKind} (ht : P.underlying t = some (.slice e)) (hu : P.underlying u = some (.int kd)) (hi : P.info? e = some i) (hz : i.zero = some z) (hsz : 0 < i.size)
    {s : Value} {a : Option Addr} {sLen sCap j : Nat} {olds : List Value} {w : World} (hzs : z.cells.size = i.size)
    (hs : s = .slice a sLen sCap) (hold : (Builtin.firstCells i.size sLen s).run P w.drew = .ok olds.toArray w.drew) (hroom : sCap < sLen + j) (h63 : sLen + j ≤ 9223372036854775807)
    (hfit : Builtin.nextslicecap (sLen + j) sCap * i.bytes ≤ 281474976710656) (hj : j * i.bytes ≤ 281474976710656) (hjp : 0 < j) :
    (Builtin.append_ #[t, u] ty #[s, .int kd' j]).run P w =
      .ok (.slice (some ⟨w.heap.size, 0, none⟩) (sLen + j) (grownCap w (sLen + j) sCap e))
        (w.drew.alloc (.cells (olds.toArray ++ Builtin.zeroCells z.cells j ++ Builtin.zeroCells z.cells (grownCap w (sLen + j) sCap e - (sLen + j))) e)) := by
  have hn : ¬ (sLen + j ≤ sCap) := by omega
  have h63' : ¬ (9223372036854775807 < ((sLen : Int) + (j : Int))) := by omega
  have h48' : ¬ (281474976710656 < Builtin.nextslicecap (sLen + j) sCap * i.bytes) := by omega
  have hwr : IntKind.i64.wrap (j : Int) = j := IntWalk.i64_in _ ⟨by omega, by omega⟩
  have hjb : ¬ (281474976710656 < (j : Int) * (i.bytes : Int)) := by
    have : ((j * i.bytes : Nat) : Int) ≤ 281474976710656 := Int.ofNat_le.2 hj
    rw [Int.natCast_mul] at this; omega
  have hneg : ¬ ((j : Int) < 0) := by omega
  have h0 : ¬ (j * i.size = 0) := fun h => by rcases Nat.mul_eq_zero.1 h with h | h <;> omega
  subst hs
  simp [Builtin.append_, run_underlying ht, run_underlying hu, sizeOf, typeInfo, zeroValue, hi, hz, hn, h63', h48', Question.forced, hold, newRow, grownCap, asInt, asIntOf, hwr, hjb, hneg]
  intro h; exact absurd h h0

/-- zeros are appended, into a new row -/
theorem growZ_core {t u ty e : TypeId} {s by_ n cap j : Nat} {kd kd' : IntKind} (hw : SatW w0 M0 F tb g w) (hel : elTy P t = some (e, s, by_)) (hu : P.underlying u = some (.int kd)) {z : List PC} (hz : zeroC P e = some z) (hs : 0 < s) {ad : Option Addr} {olds : List Value} {zo : List AV}
    (hold : (Builtin.firstCells s n (.slice ad n cap)).run P w.drew = .ok olds.toArray w.drew) (ho : RepVs g olds zo) (ho1 : ∀ v ∈ olds, v.oneCell' = true) (hol : zo.length = n * s) (hj : 0 < j)
    (hgrow : cap < n + j) (hbound : (n + j) * by_ ≤ 140737488355328) (hmax : n + j ≤ 9223372036854775807) :
    ∃ v' w' g', (Builtin.append_ #[t, u] ty #[.slice ad n cap, .int kd' j]).run P w = .ok v' w' ∧ g.le g' ∧ SatW w0 M0 F (tb.addOb ⟨e, s, zo ++ (repC j z).map .p⟩) g' w' ∧ RepV g' v' (.view tb.nx 0 (n + j) s none) := by
  obtain ⟨hU, i, zv, hi, hzv, hisz, hiby, hzs⟩ := elTy_spec hel
  obtain ⟨zv', hzv', rfl, hone⟩ := zeroC_el hz hi
  rw [hzv] at hzv'; injection hzv' with hzv'; subst hzv'
  subst hisz
  have hfit : Builtin.nextslicecap (n + j) cap * i.bytes ≤ 281474976710656 := growslice_fits hgrow (by rw [hiby]; exact hbound)
  have hjb : j * i.bytes ≤ 281474976710656 := by
    have : j * i.bytes ≤ (n + j) * by_ := by rw [hiby]; exact Nat.mul_le_mul_right _ (by omega)
    omega
  have hrun := run_app_growZ (P := P) (ty := ty) (kd' := kd') hU hu hi hzv hs hzs rfl hold hgrow hmax hfit hjb hj
  have hge := grownCap_ge w (n + j) cap e
  have hcm := grownCap_le_maxLen w (n + j) cap e (by unfold maxLen; omega)
  generalize grownCap w (n + j) cap e = C at *
  have hlo := ho.length
  have hflat := zero_cells (z := zv.cells) (by omega) j
  have hr := rep_cells j (Builtin.zeroCells zv.cells j) hflat g.M hone
  have hcur : (olds.toArray ++ Builtin.zeroCells zv.cells j ++ Builtin.zeroCells zv.cells (C - (n + j))).size = C * i.size := by
    simp only [Array.size_append, List.size_toArray, size_zeroCells, hzs, hlo, hol]
    rw [← Nat.add_mul, ← Nat.add_mul]; congr 1; omega
  have hB : Below w.drew.heap.size w.drew (w.drew.alloc (.cells (olds.toArray ++ Builtin.zeroCells zv.cells j ++ Builtin.zeroCells zv.cells (C - (n + j))) e)) := (Below.refl _ _).alloc (Nat.le_refl _) _
  have hlen : (zo ++ (repC j (zv.cells.toList.map c1)).map AV.p).length = (olds ++ (Builtin.zeroCells zv.cells j).toList).length := by
    simp only [List.length_append, hlo, List.length_map, repC_len, Array.length_toList, size_zeroCells]
  have htake : (olds.toArray ++ Builtin.zeroCells zv.cells j ++ Builtin.zeroCells zv.cells (C - (n + j))).toList.take (zo ++ (repC j (zv.cells.toList.map c1)).map AV.p).length = olds ++ (Builtin.zeroCells zv.cells j).toList := by
    rw [hlen]
    simp only [Array.toList_append]
    rw [List.take_append_of_le_length (by simp)]
    exact List.take_of_length_le (by simp)
  have hle : (zo ++ (repC j (zv.cells.toList.map c1)).map AV.p).length ≤ (olds.toArray ++ Builtin.zeroCells zv.cells j ++ Builtin.zeroCells zv.cells (C - (n + j))).size := by rw [hlen]; simp only [Array.size_append, List.size_toArray, List.length_append, Array.length_toList]; omega
  have key := hw.drew.newOb (o := ⟨e, i.size, zo ++ (repC j (zv.cells.toList.map c1)).map AV.p⟩) (c := C) hB (heap_alloc_new w.drew _) hcur hcm hle (by rw [htake]; exact ho.append (reps_p hr.1))
    (by
      intro v hv
      simp only [Array.toList_append, List.mem_append] at hv
      rcases hv with (hv | hv) | hv
      · exact ho1 v (by simpa using hv)
      · exact hr.2 v hv
      · exact zeros_one hone v hv)
  exact ⟨_, _, _, hrun, hw.drew.leOb _ _, key, by
    have := RepV.view (g := g.obAt tb.nx w.drew.heap.size C) (id := tb.nx) (b := w.drew.heap.size) (c := C) (o := 0) (n := n + j) (s := i.size) (a := some ⟨w.drew.heap.size, 0, none⟩) (m := none) (by simp [G.obAt]) (by omega) hcm (.real 0 (by omega) rfl (fun _ => by simp)) (by simp)
    simpa using this⟩

section
variable {c : Call} {x y : Operand} {t u e : TypeId} {id f n s m by_ j : Nat} {ob : Ob} {z : List PC} {kd kd' : IntKind}

theorem intOf_spec {t : TypeId} {k : IntKind} (h : Av.intOf P t = some k) : P.underlying t = some (.int k) := by
  unfold Av.intOf at h
  split at h
  · rename_i hU; injection h with h; subst h; exact hU
  · cases h

theorem t_growZ (ho : o.op = .call c) (hc : c.callee = .builtin .append) (ha : c.args = #[x, y]) (hts : c.argTypes = #[t, u])
    (hx : evS st.sl x = .view id f n s (some m)) (hl : lk id st.tb.bx = some ob) (hel : elTy P t = some (e, s, by_)) (hs : 0 < s) (hf : (f + n) * s ≤ ob.xs.length) (hu : Av.intOf P u = some kd) (hz : zeroC P e = some z)
    (hy : (evS st.sl y).nm = .p (.sc (.int kd' j))) (hj : 0 < j) (hroom : m - f < n + j) (hbound : (n + j) * by_ ≤ 140737488355328) (hmax : n + j ≤ 9223372036854775807) :
    TYld P st o (.view st.tb.nx 0 (n + j) s none) (st.tb.addOb ⟨e, s, (ob.xs.drop (f * s)).take (n * s) ++ (repC j z).map .p⟩) :=
  tyld_value fun w0 M0 F g a w hw h => by
    have h1 := h x (by rw [ho]; simp [Op.operands, Call.operands, hc, ha]); rw [hx] at h1
    have h2 := repV_nm (h y (by rw [ho]; simp [Op.operands, Call.operands, hc, ha])); rw [hy] at h2
    have h2 := y_nil_sc h2
    generalize hv : a.eval x = v at h1
    cases h1 with
    | view ee h3 h4 h5 hm =>
      rename_i b cc ad
      obtain rfl := hm _ rfl
      obtain ⟨os, q0, r1, r3, r4⟩ := view_olds (P := P) hw hl ee h3 h5 hf
      obtain ⟨v', w', g', k1, k2, k3, k4⟩ := growZ_core (P := P) (ty := o.type) (kd' := kd') (n := n) (cap := cc - f) (ad := ad) hw hel (intOf_spec hu) hz hs q0 r3 r4 (by rw [← r3.length, r1]) hj hroom hbound hmax
      exact ⟨v', w', g', by rw [run_append2 ho hc ha hts, hv, h2, k1]; rfl, k2, k3, k4⟩

/-- .. behind nothing -/
theorem t_growZM (ho : o.op = .call c) (hc : c.callee = .builtin .append) (ha : c.args = #[x, y]) (hts : c.argTypes = #[t, u])
    (hx : evS st.sl x = .full [] ∨ evS st.sl x = .p .nil) (hel : elTy P t = some (e, s, by_)) (hs : 0 < s) (hu : Av.intOf P u = some kd) (hz : zeroC P e = some z)
    (hy : (evS st.sl y).nm = .p (.sc (.int kd' j))) (hj : 0 < j) (hbound : j * by_ ≤ 140737488355328) (hmax : j ≤ 9223372036854775807) :
    TYld P st o (.view st.tb.nx 0 j s none) (st.tb.addOb ⟨e, s, (repC j z).map .p⟩) :=
  tyld_value fun w0 M0 F g a w hw h => by
    have h1 := h x (by rw [ho]; simp [Op.operands, Call.operands, hc, ha])
    have h2 := repV_nm (h y (by rw [ho]; simp [Op.operands, Call.operands, hc, ha])); rw [hy] at h2
    have h2 := y_nil_sc h2
    obtain ⟨ad, hv⟩ : ∃ ad, a.eval x = .slice ad 0 0 := by
      rcases hx with hx | hx
      · rw [hx] at h1
        generalize a.eval x = v at h1
        cases h1 with
        | full hr => cases hr with
          | nilsl => exact ⟨none, rfl⟩
          | sl0 a => exact ⟨_, rfl⟩
          | sl hn _ _ _ _ _ _ hs => have := hs.length; simp at this; rw [this] at hn; simp at hn; subst hn; exact ⟨_, rfl⟩
      · rw [hx] at h1
        have := repV_p h1
        generalize a.eval x = v at this
        cases this; exact ⟨none, rfl⟩
    obtain ⟨v', w', g', k1, k2, k3, k4⟩ := growZ_core (P := P) (ty := o.type) (kd' := kd') (n := 0) (cap := 0) (ad := ad) (olds := []) (zo := []) hw hel (intOf_spec hu) hz hs (by cases ad <;> simp [Builtin.firstCells, loadCells, loadCellsFrom]) .nil (by simp) (by simp) hj (by omega) (by simpa using hbound) (by omega)
    simp only [Nat.zero_add, List.nil_append] at k3 k4
    exact ⟨v', w', g', by rw [run_append2 ho hc ha hts, hv, h2, k1]; rfl, k2, k3, k4⟩
end
end

section
variable {P : Program} {st : AS} {o : Oper}
/-- a literal that is written again -/
theorem t_lit {t e : TypeId} {sz by_ n : Nat} {ps : Array (Nat × Operand)} {ys : List PC} (ho : o.op = .buildSlice t n ps) (ht : elTy P t = some (e, sz, by_)) (hsz : 0 < sz) (hio : inOrder 0 ps.toList = true)
    (hn : ps.size = n) (hlim : n * sz ≤ 16777216) (hys : allP (ps.toList.map fun p => (evS st.sl p.2).nm) = some ys) (hw' : ∀ y ∈ ys, y.width = sz) (hnt : ∀ y ∈ ys, noTup y = true) :
    TYld P st o (.view st.tb.nx 0 n sz (some n)) (st.tb.addOb ⟨e, sz, ys.flatMap pcCells⟩) :=
  tyld_value fun w0 M0 F g a w hw h => by
    have hr := allP_reps (g := g) (a := a) (ps.toList.map (·.2)) ys (fun y hy => repV_nm (h y (by rw [ho]; simpa [Op.operands] using hy))) (by rw [List.map_map]; exact hys)
    have hsizes := reps_sizes hr hw'
    have hvals : (((ps.map fun (i, x) => (i, a.eval x)).toList).map (·.2)) = (ps.toList.map (·.2)).map a.eval := by simp
    have hio' : inOrder 0 ((ps.map fun (i, x) => (i, a.eval x)).toList) = true := by
      have key : ∀ (l : List (Nat × Operand)) (k : Nat), inOrder k l = true → inOrder k (l.map fun p => (p.1, a.eval p.2)) = true := by
        intro l
        induction l with
        | nil => intro k _; rfl
        | cons p l ih => intro k hk; simp only [inOrder, Bool.and_eq_true, List.map_cons] at hk ⊢; exact ⟨hk.1, ih _ hk.2⟩
      have := key ps.toList 0 hio
      simpa using this
    have hrun := run_buildSlice (P := P) (w := w) (n := n) ht hio' (by simp [hn]) hlim hsz (by rw [hvals]; exact hsizes)
    rw [hvals] at hrun
    generalize hus : (ps.toList.map (·.2)).map a.eval = us at hr hsizes hrun
    have hlen : us.length = n := by rw [← hus]; simp [hn]
    have hcr := reps_cells hr hnt
    have hcl : (cellsOf us).length = n * sz := by rw [cellsOf_length us hsizes, hlen]
    have hlc : (ys.flatMap pcCells).length = n * sz := by rw [← hcr.length, hcl]
    have hone : ∀ v ∈ cellsOf us, v.oneCell' = true := by
      have key : ∀ {us : List Value} {ys : List PC}, Reps g.M us ys → (∀ y ∈ ys, noTup y = true) → ∀ u ∈ cellsOf us, u.oneCell' = true := by
        intro us ys hr
        induction us generalizing ys with
        | nil => intro _ u hu; simp [cellsOf] at hu
        | cons v us ih =>
          intro hb u hu
          cases hr with
          | cons hv hr =>
            rename_i y ys
            simp only [cellsOf, List.flatMap_cons, List.mem_append] at hu
            rcases hu with hu | hu
            · have hby := hb y (by simp)
              by_cases hp : y.plain = true
              · obtain ⟨e1, e2⟩ := rep_plain hv hp
                rw [e1] at hu; simp at hu; subst hu; exact e2
              · cases y with
                | agg b xs =>
                  cases b with
                  | true => cases hby
                  | false => cases hv with
                    | agg hs h1 => exact h1 u (by simpa [Value.cells] using hu)
                | _ => simp [PC.plain] at hp
            · exact ih hr (fun y hy => hb y (by simp [hy])) u hu
      exact key hr hnt
    have hB : Below w.heap.size w (w.alloc (.cells (cellsOf us).toArray e)) := (Below.refl _ _).alloc (Nat.le_refl _) _
    have hmax : n ≤ maxLen := by
      have : n * 1 ≤ n * sz := Nat.mul_le_mul_left _ hsz
      unfold maxLen; omega
    have key := hw.newOb (o := ⟨e, sz, ys.flatMap pcCells⟩) (cur := (cellsOf us).toArray) (c := n) hB (heap_alloc_new w _) (by simp [hcl]) hmax (by simp [hlc, hcl])
      (by simp only [hlc, ← hcl, List.take_length]; exact hcr) (by simpa using hone)
    refine ⟨.slice (some ⟨w.heap.size, 0, none⟩) n n, _, _, ?_, hw.leOb _ _, key, ?_⟩
    · have harr : ps.map (fun (p : Nat × Operand) => (p.1, a.eval p.2)) = ((ps.map fun (i, x) => (i, a.eval x)).toList).toArray := by apply Array.ext'; simp
      simp only [execOp, ho, Sem.run_bind]
      have hrun' : (Instr.buildSlice t n (ps.map fun (x : Nat × Operand) => (x.1, a.eval x.2))).run P w = .ok (.slice (some ⟨w.heap.size, 0, none⟩) n n) (w.alloc (.cells (cellsOf us).toArray e)) := by rw [harr]; exact hrun
      rw [hrun']; rfl
    · have := RepV.view (g := g.obAt st.tb.nx w.heap.size n) (id := st.tb.nx) (b := w.heap.size) (c := n) (o := 0) (n := n) (s := sz) (a := some ⟨w.heap.size, 0, none⟩) (by simp [G.obAt]) (by omega) hmax (by
        rcases Nat.eq_zero_or_pos n with h0 | h0
        · exact .void h0 (.inr ⟨_, rfl⟩)
        · exact .real 0 h0 rfl (fun _ => by simp)) (m := some n) (fun k hk => by injection hk)
      simpa using this
end
end Go.Av

/-! part AvBor -/
namespace Go.Av
open Go.RowKit

/-- all that a world holds -/
def memOf (w : World) : Mem := fun b o => w.cell? ⟨b, o, none⟩
theorem le_memOf {w : World} {M : Mem} (h : Holds w M) : M.le (memOf w) := fun b o v e => h b o v e
theorem memOf_holds {w : World} {M : Mem} (h : Holds w M) : Holds w (memOf w) := ⟨fun _ _ _ h => h, h.g.mono (le_memOf h)⟩

def all2 {α β : Type} (p : α → β → Prop) : List α → List β → Prop
  | [], [] => True
  | x :: l, y :: m => p x y ∧ all2 p l m
  | _, _ => False

/-- a value, as it is now -/
def borF (bx : List (Nat × Ob)) : Nat → AV → PC → Prop
  | 0, _, _ => False
  | k + 1, .view id o n s _, .sl ys => ∃ ob, lk id bx = some ob ∧ 0 < s ∧ ys.length = n ∧ (o + n) * s ≤ ob.xs.length ∧ (ob.xs.drop (o * s)).take (n * s) = ys.flatMap pcCells ∧ (∀ y ∈ ys, y.width = s) ∧ (∀ y ∈ ys, noTup y = true)
  | k + 1, .obj id off, .ref (.agg false ys) => ∃ ob, lk id bx = some ob ∧ off + ys.length ≤ ob.xs.length ∧ all2 (borF bx k) ((ob.xs.drop off).take ys.length) ys
  | k + 1, .obj id off, .ref y => ∃ ob z, lk id bx = some ob ∧ ob.xs[off]? = some z ∧ y.plain = true ∧ borF bx k z y
  | k + 1, .agg t xs, .agg t' ys => t = t' ∧ all2 (borF bx k) xs ys
  | k + 1, .clo f xs, .fn f' ys => f = f' ∧ all2 (borF bx k) xs ys
  | k + 1, x, y => ∃ p, x.pc = some p ∧ (y = p ∨ y = p.wk)

section
variable {P : Program} {st : AS} {o : Oper} {w0 : World} {M0 : Mem} {F : Nat → Prop} {tb : Tb} {g : G} {w w' : World}

theorem repVs_all2 {M : Mem} {p : AV → PC → Prop} (hp : ∀ v x y, RepV g v x → p x y → Rep M v y) : ∀ {vs : List Value} {xs : List AV} {ys : List PC}, RepVs g vs xs → all2 p xs ys → Reps M vs ys
  | _, [], [], .nil, _ => .nil
  | _, _ :: _, _ :: _, .cons h hs, e => .cons (hp _ _ _ h e.1) (repVs_all2 hp hs e.2)
  | _, [], _ :: _, _, e => e.elim
  | _, _ :: _, [], _, e => e.elim

theorem borF_repN (hw : SatW w0 M0 F tb g w) {N : Mem} (hM : g.M.le N) (hN : ∀ id ob b c, lk id tb.bx = some ob → g.ob id = some (b, c) → 0 < c → ∀ o v, w.cell? ⟨b, o, none⟩ = some v → N b o = some v) :
    ∀ (k : Nat) (v : Value) (x : AV) (y : PC), RepV g v x → borF tb.bx k x y → Rep N v y := by
  have last : ∀ (v : Value) (x : AV) (y : PC), RepV g v x → (∃ p, x.pc = some p ∧ (y = p ∨ y = p.wk)) → Rep N v y := fun v x y h e => by
    obtain ⟨p, e, rfl | rfl⟩ := e
    · exact (repV_pc h _ e).mono hM
    · exact (rep_wk (repV_pc h p e)).mono hM
  intro k
  induction k with
  | zero => intro v x y _ h; exact h.elim
  | succ k ih =>
    intro v x y hv h
    unfold borF at h
    split at h
    · cases h
    · rename_i kk id of n s m ys hk
      obtain ⟨ob, hl, hs, hn, hle, hc, hwd, hnt⟩ := h
      cases hv with
      | view e h3 h4 h5 hm =>
        rename_i b cc ad
        rcases Nat.eq_zero_or_pos n with h0 | h0
        · have : ys = [] := List.eq_nil_of_length_eq_zero (by omega)
          subst this
          subst h0
          cases ad with
          | none =>
            cases h5 with
            | real _ _ ha _ => cases ha
            | void hz _ => subst hz; have : 0 - of = 0 := by omega
                           rw [this]; exact .nilsl
          | some ad =>
            cases h5 with
            | real off _ ha _ =>
              injection ha with ha; subst ha
              exact .sl (us := []) rfl (by omega) (by omega) hs (by simp) (by simp [cellsOf]) (fun j v e => by simp [cellsOf] at e) .nil
            | void hz0 _ => subst hz0; have : 0 - of = 0 := by omega
                            rw [this]; exact .sl0 ad
        · cases h5 with
          | void hz _ => omega
          | real off hcp had h5 =>
          subst had
          obtain rfl := h5 (.inl (by omega))
          obtain ⟨cur, f2, f3, ⟨tt, fz, f4, fo⟩, f5, f6, f7, f8, f9⟩ := (hw.boxes id ob hl).real e hcp
          have e3 : ((cur.toList.take ob.xs.length).drop (of * s)).take (n * s) = (cur.toList.drop (of * s)).take (n * s) := by
            rw [Nat.add_mul] at hle
            rw [List.drop_take, List.take_take, Nat.min_eq_left (by omega)]
          have hcr : RepVs g ((cur.toList.drop (of * s)).take (n * s)) (ys.flatMap pcCells) := by
            have := (f8.drop (of * s)).take (n * s)
            rw [e3, hc] at this; exact this
          have hone : ∀ u ∈ (cur.toList.drop (of * s)).take (n * s), u.oneCell' = true := fun u hu => f9 u (by
            rw [← e3] at hu; exact List.mem_of_mem_take (List.mem_of_mem_drop (List.mem_of_mem_take hu)))
          obtain ⟨us, hus, hrep⟩ := cells_reps ys hcr hone hnt
          have hlu := hrep.length
          refine .sl (us := us) (by omega) (by omega) (by omega) hs (reps_sizes hrep hwd) (fun v hv => hone v (by rw [← hus]; exact hv)) ?_ (hrep.mono hM)
          rw [hus]
          intro j u hj
          rw [List.getElem?_take] at hj
          split at hj
          · rw [List.getElem?_drop] at hj
            refine hN id ob b cc hl e hcp _ _ ?_
            unfold World.cell?; rw [f4]; simpa using hj
          · cases hj
    · rename_i kk id off ys hk
      obtain ⟨ob, hl, hle, hall⟩ := h
      cases hv with
      | obj e =>
        rename_i b cc
        by_cases hne : ob.xs = []
        · rw [hne] at hle
          simp only [List.length_nil, Nat.le_zero] at hle
          have : ys = [] := List.eq_nil_of_length_eq_zero (by omega)
          subst this
          refine .ref (u := .agg #[]) (fun j v e => by simp [Value.cells] at e) ?_
          exact Rep.agg (vs := []) .nil (by simp)
        · have hcp := (hw.boxes id ob hl).pos e hne
          obtain ⟨cur, f2, f3, ⟨tt, fz, f4, fo⟩, f5, f6, f7, f8, f9⟩ := (hw.boxes id ob hl).real e hcp
          have e3 : ((cur.toList.take ob.xs.length).drop off).take ys.length = (cur.toList.drop off).take ys.length := by
            rw [List.drop_take, List.take_take, Nat.min_eq_left (by omega)]
          have hcr : RepVs g ((cur.toList.drop off).take ys.length) ((ob.xs.drop off).take ys.length) := by
            have := (f8.drop off).take ys.length
            rw [e3] at this; exact this
          refine .ref (u := .agg ((cur.toList.drop off).take ys.length).toArray) (fun j u hj => ?_) (Rep.agg (repVs_all2 (fun v x y h1 h2 => ih v x y h1 (by cases hk; exact h2)) hcr hall) (fun u hu => f9 u ?_))
          · simp only [Value.cells] at hj
            rw [List.getElem?_take] at hj
            split at hj
            · rw [List.getElem?_drop] at hj
              refine hN id ob b cc hl e hcp _ _ ?_
              unfold World.cell?; rw [f4]; simpa using hj
            · cases hj
          · rw [← e3] at hu; exact List.mem_of_mem_take (List.mem_of_mem_drop (List.mem_of_mem_take hu))
    · rename_i kk id off y _ hk
      obtain ⟨ob, z, hl, hz, hp, hb⟩ := h
      cases hv with
      | obj e =>
        rename_i b cc
        have hne : ob.xs ≠ [] := fun hn => by rw [hn] at hz; simp at hz
        have hcp := (hw.boxes id ob hl).pos e hne
        obtain ⟨cur, f2, f3, ⟨tt, fz, f4, fo⟩, f5, f6, f7, f8, f9⟩ := (hw.boxes id ob hl).real e hcp
        obtain ⟨u, hu, hr⟩ := f8.get hz
        have hy : Rep N u y := ih u z y hr (by cases hk; exact hb)
        refine .ref (u := u) (fun j u' hj => ?_) hy
        rw [(rep_plain hy hp).1] at hj
        cases j with
        | succ j => simp at hj
        | zero =>
          simp at hj; subst hj
          refine hN id ob b cc hl e hcp _ _ ?_
          rw [List.getElem?_take] at hu
          split at hu
          · unfold World.cell?; rw [f4]; simpa using hu
          · cases hu
    · rename_i kk t xs t' ys hk
      obtain ⟨rfl, hall⟩ := h
      cases hv with
      | agg hs h1 => exact .agg (repVs_all2 (fun v x y h1 h2 => ih v x y h1 (by cases hk; exact h2)) hs hall) h1
      | tup hs => exact .tup (repVs_all2 (fun v x y h1 h2 => ih v x y h1 (by cases hk; exact h2)) hs hall)
    · rename_i kk f xs f' ys hk
      obtain ⟨rfl, hall⟩ := h
      cases hv with
      | clo hs => exact .fn (repVs_all2 (fun v x y h1 h2 => ih v x y h1 (by cases hk; exact h2)) hs hall)
    · exact last v _ _ hv h

theorem borF_rep (hw : SatW w0 M0 F tb g w) (k : Nat) (v : Value) (x : AV) (y : PC) (hv : RepV g v x) (h : borF tb.bx k x y) : Rep (memOf w) v y :=
  borF_repN hw (le_memOf hw.holds) (fun _ _ _ _ _ _ _ _ _ h => h) k v x y hv h

/-- nothing in it leads anywhere -/
def PC.flat : PC → Bool
  | .sc _ => true
  | .nil => true
  | .agg _ xs => flats xs
  | _ => false
where flats : List PC → Bool
  | [] => true
  | x :: l => x.flat && flats l

mutual
theorem rep_flat {M N : Mem} : ∀ {v : Value} (x : PC), Rep M v x → x.flat = true → Rep N v x
  | v, .sc u, h, _ => by cases h with | sc _ h => exact .sc _ h
  | v, .nil, h, _ => by cases h; exact .nil
  | v, .agg t xs, h, hf => by
    simp only [PC.flat] at hf
    cases h with
    | agg hs h1 => exact .agg (reps_flat xs hs hf) h1
    | tup hs => exact .tup (reps_flat xs hs hf)
  | v, .sl xs, _, hf => by simp [PC.flat] at hf
  | v, .ref x, _, hf => by simp [PC.flat] at hf
  | v, .fn f xs, _, hf => by simp [PC.flat] at hf
theorem reps_flat {M N : Mem} : ∀ {vs : List Value} (xs : List PC), Reps M vs xs → PC.flat.flats xs = true → Reps N vs xs
  | _, [], h, _ => by cases h; exact .nil
  | _, x :: xs, h, hf => by
    simp only [PC.flat.flats, Bool.and_eq_true] at hf
    cases h with | cons h1 hs => exact .cons (rep_flat x h1 hf.1) (reps_flat xs hs hf.2)
end

/-- a function that only computes, lent what is its own -/
def bcallW (P : Program) (gf : FuncId) (caps : List PC) (args : List AV) (tb : Tb) (k : AV → Tb → Prop) : Prop :=
  ∃ ys r, all2 (borF tb.bx 4) args ys ∧ PureC P gf (ys ++ caps) r ∧ r.flat = true ∧ k (.p r) tb

theorem t_bcall {c : Call} {f : Operand} {gf : FuncId} {caps ys : List PC} {r : PC} (ho : o.op = .call c) (hc : c.callee = .value f) (hf : (evS st.sl f).nm = .p (.fn (.func gf) caps))
    (hx : all2 (borF st.tb.bx 4) (c.args.toList.map (evS st.sl)) ys) (hp : PureC P gf (ys ++ caps) r) (hr : r.flat = true) : TYld P st o (.p r) st.tb := by
  intro w0 M0 F g a w hw hop K Q hK
  have hop' : ∀ y, y ∈ o.op.operands → RepV g (a.eval y) (evS st.sl y) := fun y hy => repV_ev y fun t e => hop t (e ▸ hy)
  have h1 := repV_nm (hop' f (by rw [ho]; simp [Op.operands, Call.operands, hc]))
  rw [hf] at h1
  have h1' := repV_p h1
  generalize hv : a.eval f = v at h1'
  cases h1' with
  | fn hcaps =>
    rename_i cv
    have hargs := repVs_map (g := g) (a := a) (sl := st.sl) c.args.toList (fun y hy => hop' y (by rw [ho]; simp [Op.operands, Call.operands, hc]; exact Or.inr (by simpa using hy)))
    have hall := (repVs_all2 (fun v x y h1 h2 => borF_rep hw 4 v x y h1 h2) hargs hx).append (hcaps.mono (le_memOf hw.holds))
    have hrun : (execOp a.eval o).run P w = .ok (.enter gf ((c.args.toList.map a.eval) ++ cv).toArray) w := by
      simp [execOp, ho, resolve, hc, hv, Deferred.ofValue, invoke, run_callFunc hp.1]
    unfold Oper.wp
    rw [hrun]
    refine (hp.2 (memOf w) w _ (memOf_holds hw.holds) hall).mono ?_
    rintro e' w' ⟨v', N, rfl, hr', hH, hM, hO, hB⟩
    have hH' : Holds w' g.M := ⟨fun b o v e => by
      have hlt := hw.holds.lt e
      rw [hB.cell (p := ⟨b, o, none⟩) hlt]; exact hw.holds b o v e, hw.holds.g⟩
    have hw' := hw.later (Mem.le_refl _) hH' (fun _ _ => rfl) hB
    exact hK v' w' g (G.le_refl g) hw' (.p (rep_flat _ hr' hr))

/-! ### slices.overlaps -/

theorem ovl_two {h1 : Option Addr → Nat → Nat → Option Addr → Nat → Nat → Sem Value} {h2 : Array Value → Sem Value} {a b : Option Addr} {la ca lb cb : Nat} :
    Extern.SlicesOverlaps.overlaps.match_4 (fun _ => Sem Value) #[.slice a la ca, .slice b lb cb] h1 h2 = h1 a la ca b lb cb := rfl

theorem run_ovl {P : Program} (w : World) (tS tR e : TypeId) (ht : P.underlying tS = some (.slice e)) (size : Nat) (hz : ∀ w, (Go.sizeOf e).run P w = .ok size w)
    (a b : Addr) (la ca lb cb : Nat) (hne : a.block ≠ b.block) (tA tB : TypeId) (kA kB : Nat)
    (hsa : w.shape? a.block = some (tA, kA)) (hsb : w.shape? b.block = some (tB, kB)) (hkA : kA ≠ 0) (hkB : kB ≠ 0)
    (hf : (w.frozen? a = false ∧ w.frozen? { block := a.block, off := kA } = false) ∨ (w.frozen? b = false ∧ w.frozen? { block := b.block, off := kB } = false)) :
    (Extern.SlicesOverlaps.overlaps #[tS, tS] #[tR] #[.slice (some a) la ca, .slice (some b) lb cb]).run P w = .ok (.bool false) w := by
  have hnb : (a.block != b.block) = true := by simpa using hne
  have hnb' : (a.block == b.block) = false := by simpa using hne
  delta Extern.SlicesOverlaps.overlaps
  rw [ovl_two]
  by_cases h0 : la = 0 ∨ lb = 0 ∨ size = 0
  · simp [run_underlying ht, hz, h0]
  · cases kA with
    | zero => exact absurd rfl hkA
    | succ kA =>
    cases kB with
    | zero => exact absurd rfl hkB
    | succ kB =>
      rcases hf with ⟨h1, h2⟩ | ⟨h1, h2⟩
      · simp [run_underlying ht, hz, h0, hnb, hnb', frozen, noView, viewAt, mayBeOne, stringish, shape, Sem.run, hsa, hsb, h1, h2]
      · simp [run_underlying ht, hz, h0, hnb, hnb', frozen, noView, viewAt, mayBeOne, stringish, shape, Sem.run, hsa, hsb, h1, h2]
        all_goals (cases w.frozen? a <;> simp [h1, h2])
        all_goals (cases w.frozen? { block := a.block, off := kA + 1 } <;> simp [h1, h2])


theorem run_ovl0 (w : World) (tS tR e : TypeId) (ht : P.underlying tS = some (.slice e)) (size : Nat) (hz : ∀ w, (Go.sizeOf e).run P w = .ok size w)
    (a b : Option Addr) (la ca lb cb : Nat) (h : a = none ∨ b = none ∨ la = 0 ∨ lb = 0) :
    (Extern.SlicesOverlaps.overlaps #[tS, tS] #[tR] #[.slice a la ca, .slice b lb cb]).run P w = .ok (.bool false) w := by
  delta Extern.SlicesOverlaps.overlaps
  rw [ovl_two]
  cases a with
  | none => simp [run_underlying ht, hz]
  | some a =>
    cases b with
    | none => simp [run_underlying ht, hz]
    | some b =>
      have h0 : la = 0 ∨ lb = 0 ∨ size = 0 := by
        rcases h with h | h | h | h
        · cases h
        · cases h
        · exact .inl h
        · exact .inr (.inl h)
      simp [run_underlying ht, hz, h0]

def OvlC (P : Program) (gf : FuncId) : Prop :=
  ∃ fn tS tR e, P.funcs[gf]? = some fn ∧ (fn.name == "runtime.NumGoroutine") = false ∧ fn.body.isNone = true ∧ Extern.findNext fn = none ∧ Extern.find fn = some (Extern.SlicesOverlaps.overlaps #[tS, tS] #[tR]) ∧
    P.underlying tS = some (.slice e) ∧ (tySize P e).isSome = true

def isLst : AV → Prop
  | .p (.sl _) => True
  | .p .nil => True
  | _ => False

def ovlW (P : Program) (gf : FuncId) (args : List AV) (tb : Tb) (k : AV → Tb → Prop) : Prop :=
  OvlC P gf ∧ k (.p (.bool false)) tb ∧ ∃ id o n s m y ob, (args = [.view id o n s m, y] ∨ args = [y, .view id o n s m]) ∧ lk id tb.bx = some ob ∧ ob.sz = s ∧ 0 < s ∧ ob.el < 1000000 ∧ isLst y.nm

theorem lst_val {M : Mem} {w : World} {v : Value} {y : AV} (hH : Holds w M) (hv : ∀ x, y = .p x → Rep M v x) (h : isLst y) : ∃ ad n c, v = .slice ad n c ∧ ∀ a, ad = some a → 0 < n → (∃ t k, w.shape? a.block = some (t, k) ∧ k ≠ 0) ∧ ∃ o u, M a.block o = some u := by
  unfold isLst at h
  split at h
  · rename_i xs
    have := hv _ rfl
    cases this with
    | nilsl => exact ⟨none, 0, 0, rfl, fun a e => by cases e⟩
    | sl0 a => exact ⟨some a, 0, 0, rfl, fun _ _ h => by omega⟩
    | sl hn hc hm hsz hu h1 hat hr =>
      rename_i b off n cap sz us
      refine ⟨_, _, _, rfl, fun a e hn0 => ?_⟩
      injection e with e; subst e
      have hcl := cellsOf_length us hu
      have hpos : 0 < (cellsOf us).length := by rw [hcl]; exact Nat.mul_pos (by omega) hsz
      have hM := hat 0 ((cellsOf us)[0]) (List.getElem?_eq_getElem hpos)
      refine ⟨?_, _, _, hM⟩
      have hc := hH _ _ _ hM
      unfold World.cell? at hc
      simp only [Option.isSome_none, Bool.false_eq_true, if_false] at hc
      split at hc
      · rename_i cs t f hb
        refine ⟨t, cs.size, by unfold World.shape?; simp only [hb], ?_⟩
        intro h0
        rw [Array.getElem?_eq_none (by omega)] at hc; cases hc
      · cases hc
  · have := hv _ rfl
    cases this
    exact ⟨none, 0, 0, rfl, fun a e => by cases e⟩
  · exact h.elim

theorem t_ovl {c : Call} {f : Operand} {gf : FuncId} (ho : o.op = .call c) (hc : c.callee = .value f) (hf : (evS st.sl f).nm = .p (.fn (.func gf) [])) (h : OvlC P gf)
    {id of n s : Nat} {m : Option Nat} {y : AV} {ob : Ob} (ha : c.args.toList.map (evS st.sl) = [.view id of n s m, y] ∨ c.args.toList.map (evS st.sl) = [y, .view id of n s m]) (hl : lk id st.tb.bx = some ob) (hsz : ob.sz = s) (hs : 0 < s) (hlow : ob.el < frM) (hy : isLst y.nm) :
    TYld P st o (.p (.bool false)) st.tb :=
  tyld_value fun w0 M0 F g a w hw hop => by
    have h1 := repV_nm (hop f (by rw [ho]; simp [Op.operands, Call.operands, hc]))
    rw [hf] at h1
    have h1' := repV_p h1
    generalize hv : a.eval f = v at h1'
    cases h1' with
    | fn hcaps =>
      cases hcaps
      obtain ⟨fn, tS, tR, e, f1, f2, f3, f4, f5, f6, f7⟩ := h
      obtain ⟨sz, hsz'⟩ := Option.isSome_iff_exists.1 f7
      have hargs := repVs_map (g := g) (a := a) (sl := st.sl) c.args.toList (fun y hy => hop y (by rw [ho]; simp [Op.operands, Call.operands, hc]; exact Or.inr (by simpa using hy)))
      have core : ∀ (u v : Value), RepV g u (.view id of n s m) → RepV g v y →
          (Extern.SlicesOverlaps.overlaps #[tS, tS] #[tR] #[u, v]).run P w = .ok (.bool false) w ∧ (Extern.SlicesOverlaps.overlaps #[tS, tS] #[tR] #[v, u]).run P w = .ok (.bool false) w := by
        intro u v hu hv
        obtain ⟨ad, k, cap, rfl, hlst⟩ := lst_val (w := w) (M := g.M) (y := y.nm) hw.holds (fun x e => by have := repV_nm hv; rw [e] at this; exact repV_p this) hy
        cases hu with
        | view e3 h3 h4 h5 hm =>
          rename_i b cc au
          have ov0 := fun (a b : Option Addr) (la ca lb cb : Nat) (h : a = none ∨ b = none ∨ la = 0 ∨ lb = 0) => run_ovl0 (P := P) w tS tR e f6 sz (fun w => run_sizeOf hsz' w) a b la ca lb cb h
          cases au with
          | none => exact ⟨ov0 _ _ _ _ _ _ (.inl rfl), ov0 _ _ _ _ _ _ (.inr (.inl rfl))⟩
          | some au =>
          cases ad with
          | none => exact ⟨ov0 _ _ _ _ _ _ (.inr (.inl rfl)), ov0 _ _ _ _ _ _ (.inl rfl)⟩
          | some ad =>
          by_cases hn0 : n = 0
          · exact ⟨ov0 _ _ _ _ _ _ (.inr (.inr (.inl hn0))), ov0 _ _ _ _ _ _ (.inr (.inr (.inr hn0)))⟩
          by_cases hk0 : k = 0
          · exact ⟨ov0 _ _ _ _ _ _ (.inr (.inr (.inr hk0))), ov0 _ _ _ _ _ _ (.inr (.inr (.inl hk0)))⟩
          obtain ⟨⟨tB, kB, q1, q2⟩, o', u', q3⟩ := hlst ad rfl (by omega)
          cases h5 with
          | void hz _ => omega
          | real off hcp had h5 =>
          injection had with had; subst had
          obtain ⟨cur, p2, p3, ⟨tt, fz, p4, fo⟩, p5, p6, p7, p8, p9⟩ := (hw.boxes id ob hl).real e3 hcp
          obtain ⟨rfl, rfl⟩ := fo.low hlow
          have hne : b ≠ ad.block := fun hh => by rw [← hh, p3] at q3; cases q3
          have hshape : w.shape? b = some (ob.el, cur.size) := by unfold World.shape?; rw [p4]
          have hk : cur.size ≠ 0 := by rw [p5, hsz]; exact Nat.ne_of_gt (Nat.mul_pos hcp hs)
          have hfz : ∀ o, w.frozen? ⟨b, o, none⟩ = false := fun o => by unfold World.frozen?; rw [p4]; simp
          exact ⟨run_ovl w tS tR e f6 sz (fun w => run_sizeOf hsz' w) ⟨b, off, none⟩ ad _ _ _ _ hne _ _ _ _ hshape q1 hk q2 (.inl ⟨hfz _, hfz _⟩),
            run_ovl w tS tR e f6 sz (fun w => run_sizeOf hsz' w) ad ⟨b, off, none⟩ _ _ _ _ (Ne.symm hne) _ _ _ _ q1 hshape q2 hk (.inr ⟨hfz _, hfz _⟩)⟩
      refine ⟨.bool false, w, g, ?_, G.le_refl g, hw, .p (.sc _ rfl)⟩
      have hargs' : ∃ u v, (c.args.toList.map a.eval) = [u, v] ∧ (Extern.SlicesOverlaps.overlaps #[tS, tS] #[tR] #[u, v]).run P w = .ok (.bool false) w := by
        rcases ha with ha | ha
        · rw [ha] at hargs
          generalize c.args.toList.map a.eval = l at hargs
          cases hargs with | cons h1 hs => cases hs with | cons h2 hs => cases hs; exact ⟨_, _, rfl, (core _ _ h1 h2).1⟩
        · rw [ha] at hargs
          generalize c.args.toList.map a.eval = l at hargs
          cases hargs with | cons h1 hs => cases hs with | cons h2 hs => cases hs; exact ⟨_, _, rfl, (core _ _ h2 h1).2⟩
      obtain ⟨u, v', hl2, hrun⟩ := hargs'
      have hl3 : c.args.map a.eval = #[u, v'] := by
        apply Array.ext'; simpa using hl2
      have hcall := run_callFunc_extern f1 f2 f3 f4 f5 #[u, v'] w
      rw [hrun] at hcall
      simp [execOp, ho, resolve, hc, hv, Deferred.ofValue, invoke, hl3, hcall]


/-- an entry of the model that only computes -/
def ExtC (P : Program) (gf : FuncId) (xs : List PC) (r : PC) : Prop :=
  ∃ fn e, P.funcs[gf]? = some fn ∧ (fn.name == "runtime.NumGoroutine") = false ∧ fn.body.isNone = true ∧ Extern.findNext fn = none ∧ Extern.find fn = some e ∧
    ∀ (M : Mem) (w : World) (vs : List Value), Holds w M → Reps M vs xs → ∃ v, (e vs.toArray).run P w = .ok v w ∧ Rep M v r
def extW (P : Program) (gf : FuncId) (args : List AV) (tb : Tb) (k : AV → Tb → Prop) : Prop :=
  ∃ xs r, allP (args.map AV.nm) = some xs ∧ ExtC P gf xs r ∧ k (.p r) tb

theorem t_ext {c : Call} {f : Operand} {gf : FuncId} {xs : List PC} {r : PC} (ho : o.op = .call c) (hc : c.callee = .value f) (hf : (evS st.sl f).nm = .p (.fn (.func gf) [])) (h : ExtC P gf xs r)
    (hx : allP (c.args.toList.map fun y => (evS st.sl y).nm) = some xs) : TYld P st o (.p r) st.tb :=
  tyld_value fun w0 M0 F g a w hw hop => by
    have hop' : ∀ y, y ∈ o.op.operands → RepV g (a.eval y) ((evS st.sl y).nm) := fun y hy => repV_nm (hop y hy)
    have h1 := hop' f (by rw [ho]; simp [Op.operands, Call.operands, hc])
    rw [hf] at h1
    have h1' := repV_p h1
    generalize hv : a.eval f = v at h1'
    cases h1' with
    | fn hcaps =>
      cases hcaps
      obtain ⟨fn, e, f1, f2, f3, f4, f5, f6⟩ := h
      have hargs := allP_reps (g := g) (a := a) c.args.toList xs (fun y hy => hop' y (by rw [ho]; simp [Op.operands, Call.operands, hc]; exact Or.inr (by simpa using hy))) hx
      obtain ⟨v, hrun, hr⟩ := f6 g.M w _ hw.holds hargs
      refine ⟨v, w, g, ?_, G.le_refl g, hw, .p hr⟩
      have hl3 : c.args.map a.eval = (c.args.toList.map a.eval).toArray := by
        apply Array.ext'; simp
      have hcall := run_callFunc_extern f1 f2 f3 f4 f5 (c.args.toList.map a.eval).toArray w
      rw [hrun] at hcall
      rw [← hl3] at hcall
      simp [execOp, ho, resolve, hc, hv, Deferred.ofValue, invoke, hcall]

def ovlX (P : Program) (gf : FuncId) (args : List AV) (tb : Tb) (k : AV → Tb → Prop) : Prop := ovlW P gf args tb k ∨ extW P gf args tb k

/-- a text's octets, in a row of one's own -/
theorem t_convSBM {s d e : TypeId} {x : Operand} {b : ByteArray} {by_ : Nat} (ho : o.op = .convert s d x) (hx : (evS st.sl x).nm = .p (.sc (.string b))) (hs : isStr P s = true) (hd : isBytes P d = true)
    (hel : elTy P d = some (e, 1, by_)) (hl : (bs b).length ≤ 9223372036854775807) : TYld P st o (.view st.tb.nx 0 (bs b).length 1 none) (st.tb.addOb ⟨e + 1000000, 1, (bytesPC (bs b)).map .p⟩) :=
  tyld_value fun w0 M0 F g a w hw h => by
    have e1 := repV_nm (h x (by simp [ho, Op.operands])); rw [hx] at e1
    have e1 := y_nil_sc e1
    obtain ⟨e', he1, he2⟩ := bytes_of hd
    obtain ⟨hU, _⟩ := elTy_spec hel
    rw [hU] at he1; injection he1 with he1; injection he1 with he1; subst he1
    have hr := run_bytes_of_string (P := P) w s d e b (str_of hs) hU he2
    have hl' := hl
    rw [bs_size] at hl'
    have hcap := grownCap_ge w b.size 0 e
    have hcap2 := grownCap_le_maxLen w b.size 0 e (by unfold maxLen; omega)
    have hwd : SatW w0 M0 F st.tb g w.drew := hw.drew
    generalize grownCap w b.size 0 e = cap at hr hcap hcap2
    have hlen : (bs b).length = b.size := bs_size b
    have hB : Below w.drew.heap.size w.drew (w.drew.alloc (.cells (bytesRow b cap) e ((bytesRow b cap).size, (bytesRow b cap).size + 1))) := (Below.refl _ _).alloc (Nat.le_refl _) _
    have hrow : (bytesRow b cap).toList.take (bs b).length = (bs b).map fun b => Value.int .u8 b.toNat := by
      unfold bytesRow
      rw [Array.toList_append, List.take_append_of_le_length (by simp [hlen])]
      rw [List.take_of_length_le (by simp [hlen])]
      simp [bs]
    have key := hwd.newObF (o := ⟨e + 1000000, 1, (bytesPC (bs b)).map .p⟩) (cur := bytesRow b cap) (c := cap) hB ⟨e, ((bytesRow b cap).size, (bytesRow b cap).size + 1), heap_alloc_new w.drew _, .inr ⟨rfl, Nat.le_refl _⟩⟩ (by simp [bytesRow]; omega) hcap2 (by simp [bytesRow, bytesPC, hlen])
      (by
        have e2 : ((bytesPC (bs b)).map AV.p).length = (bs b).length := by simp [bytesPC]
        rw [e2, hrow]; exact reps_p (reps_bytes _ _))
      (by intro v hv; unfold bytesRow at hv; simp at hv; rcases hv with ⟨_, _, rfl⟩ | ⟨_, rfl⟩ <;> rfl)
    refine ⟨.slice (some ⟨w.heap.size, 0, none⟩) b.size cap, _, _, ?_, hwd.leOb _ _, key, ?_⟩
    · simp only [execOp, ho, e1, Sem.run_bind, hr]; rfl
    · have := RepV.view (g := g.obAt st.tb.nx w.heap.size cap) (id := st.tb.nx) (b := w.heap.size) (c := cap) (o := 0) (n := b.size) (s := 1) (a := some ⟨w.heap.size, 0, none⟩) (by simp [G.obAt]) (by omega) hcap2 (by
        rcases Nat.eq_zero_or_pos cap with h0 | h0
        · exact .void h0 (.inr ⟨_, rfl⟩)
        · exact .real 0 h0 rfl (fun _ => by simp)) (m := none) (fun k hk => by cases hk)
      rw [hlen]
      simpa using this

/-- a row of octets gets the run time's mark, behind its last cell -/
theorem t_convMk {d : TypeId} {x : Operand} {id f n z : Nat} {m : Option Nat} {ob : Ob} (ho : o.op = .convert d d x) (hx : evS st.sl x = .view id f n z m) (hd : isBytes P d = true)
    (hl : lk id st.tb.bx = some ob) (hel : ob.el < frM) (hne : 0 < ob.xs.length) (hn : 0 < n) : TYld P st o (.view id f n z m) (st.tb.setOb id { ob with el := ob.el + 1000000 }) :=
  tyld_value fun w0 M0 F g a w hw h => by
    have h1 := h x (by simp [ho, Op.operands]); rw [hx] at h1
    obtain ⟨e, he1, he2⟩ := bytes_of hd
    generalize hv : a.eval x = v at h1
    have hrep := h1
    cases h1 with
    | view e3 h3 h4 h5 hm =>
      rename_i b c au
      have hcp : 0 < c := by omega
      cases h5 with
      | void hz _ => omega
      | real off _ had h5 =>
      subst had
      obtain ⟨cur, p2, p3, ⟨tt, fz, p4, fo⟩, p5, p6, p7, p8, p9⟩ := (hw.boxes id ob hl).real e3 hcp
      obtain ⟨rfl, rfl⟩ := fo.low hel
      have hsh : w.shape? b = some (ob.el, cur.size) := by unfold World.shape?; rw [p4]
      have hfz : (w.freeze ⟨b, cur.size, none⟩ 1).heap[b]? = some (.cells cur ob.el (cur.size, cur.size + 1)) := by
        unfold World.freeze
        rw [if_neg (by decide)]
        simp only [Array.getElem?_modify, if_true, p4]
        rfl
      have key := hw.chgOb (w' := w.freeze ⟨b, cur.size, none⟩ 1) (o' := { ob with el := ob.el + 1000000 }) hl e3 hcp p4
        (by unfold World.freeze; rw [if_neg (by decide)]) (by unfold World.freeze; rw [if_neg (by decide)]) (by unfold World.freeze; rw [if_neg (by decide)]) (by unfold World.freeze; rw [if_neg (by decide)]; simp)
        (fun k hk => by unfold World.freeze; rw [if_neg (by decide)]; simp only [Array.getElem?_modify]; rw [if_neg (Ne.symm hk)]) hfz rfl (fun _ => .inr ⟨rfl, Nat.le_refl _⟩) rfl p7 p8 p9
      refine ⟨_, _, g, ?_, G.le_refl g, key, hrep⟩
      simp [execOp, ho, hv, convert, run_underlying he1, run_underlying he2, markStringish, hsh]

/-- octets that lie in the world, as a text -/
theorem run_conv_bs {P : Program} {s d : TypeId} {v : Value} {l : List UInt8} {M : Mem} {w : World} (hH : Holds w M) (h : Rep M v (.sl (bytesPC l))) (hs : isBytes P s = true) (hd : isStr P d = true) :
    (convert s d v).run P w = .ok (strV l) w := by
  obtain ⟨e, he1, he2⟩ := bytes_of hs
  generalize hz : bytesPC l = zs at h
  cases h with
  | nilsl =>
    have : l = [] := by cases l <;> simp_all [bytesPC]
    subst this
    have hr := run_convert_bytes_string (P := P) w s d e none 0 0 he1 he2 (str_of hd)
    rw [hr]; rfl
  | sl0 ad =>
    have : l = [] := by cases l <;> simp_all [bytesPC]
    subst this
    have hr := run_convert_bytes_string (P := P) w s d e (some ad) 0 0 he1 he2 (str_of hd)
    rw [hr]; rfl
  | sl hn hc hm hsz hu h1c hat hrs =>
    rename_i b off n cap sz us
    subst hz
    have hus := reps_bytes_inv l hrs
    subst hus
    rw [cellsOf_bytes] at hat
    have hn' : n = l.length := by simpa using hn.symm
    subst hn'
    have hr := run_convert_bytes_back (P := P) w s d e ⟨b, off, none⟩ cap l he1 he2 (str_of hd) (fun j hj => by
      rw [Addr.add_lit]; exact hH _ _ _ (hat j _ (by simp [hj])))
    rw [hr]

/-- a row's octets, as a text -/
theorem t_convVS {s d : TypeId} {x : Operand} {id f n z : Nat} {m : Option Nat} {l : List UInt8} (ho : o.op = .convert s d x) (hx : evS st.sl x = .view id f n z m)
    (hs : isBytes P s = true) (hd : isStr P d = true) (hb : borF st.tb.bx 1 (.view id f n z m) (.sl (bytesPC l))) : TYld P st o (.p (.str l)) st.tb :=
  tyld_value fun w0 M0 F g a w hw h => by
    have h1 := h x (by simp [ho, Op.operands]); rw [hx] at h1
    have hr := borF_repN hw (le_memOf hw.holds) (fun _ _ _ _ _ _ _ _ _ h => h) 1 _ _ _ h1 hb
    have hc := run_conv_bs (P := P) (memOf_holds hw.holds) hr hs hd
    exact ⟨strV l, w, g, by simp only [execOp, ho, Sem.run_bind, hc]; rfl, G.le_refl g, hw, .p (.sc _ rfl)⟩

end
end Go.Av
