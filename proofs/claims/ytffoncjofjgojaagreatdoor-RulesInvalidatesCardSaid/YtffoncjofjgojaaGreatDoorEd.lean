/- An abstract interpreter over the program's form, with the proof that it is sound: part Ed. Own work. It holds for any program that the model takes. -/
import Derived.Test.YtffoncjofjgojaaGreatDoorEc
set_option linter.all false
/-! part AvSimp -/
namespace Go.Av
open Go.RowKit

/-! what stands behind, closed to the rewriting -/
def rgK (P : Program) (cx : Cx) (ops : Array Oper) (K : AS → Prop) (rest : List Oper) (sl : Nat → AV) (d : Option Tmp) : AV → Tb → Prop := fun x tb => rgW P cx ops K rest ⟨putS sl d x, tb⟩
def rdK (P : Program) (cx : Cx) (m : List (Nat × Cls)) (ops : Array Oper) (K : AS → Prop) (i : Nat) (rest : List Oper) (sl : Nat → AV) (d : Option Tmp) : AV → Tb → Prop := fun x tb => rgD P cx m ops K (i + 1) rest ⟨putS sl d x, tb⟩
def qK (k : AV → Tb → Prop) (tb : Tb) : AV → Prop := fun x => k x tb
def seqK (P : Program) (cx : Cx) (b : Code) (Q : Exit → AS → Prop) : Exit → AS → Prop := fun e st' => match e with
    | .normal => aw P cx b st' Q
    | e => Q e st'
def blkK (id : Nat) (Q : Exit → AS → Prop) : Exit → AS → Prop := fun e st' => match e with
    | .exit j => if j = id then Q .normal st' else Q (.exit j) st'
    | e => Q e st'
def norm (Q : Exit → AS → Prop) : AS → Prop := fun st => Q .normal st

section
variable {P : Program} {cx : Cx} {Q : Exit → AS → Prop} {K : AS → Prop} {k : AV → Prop} {kt : AV → Tb → Prop} {st st' : AS} {sl : Nat → AV} {tb tb' : Tb} {m : List (Nat × Cls)}

@[congr] theorem aw_congr {c : Code} (h : st = st') : aw P cx c st Q = aw P cx c st' Q := by rw [h]
@[congr] theorem rgW_congr {ops : Array Oper} {l : List Oper} (h : st = st') : rgW P cx ops K l st = rgW P cx ops K l st' := by rw [h]
@[congr] theorem rgD_congr {ops : Array Oper} {i : Nat} {l : List Oper} (h : st = st') : rgD P cx m ops K i l st = rgD P cx m ops K i l st' := by rw [h]

@[simp] theorem aw_skip : aw P cx .skip st Q = Q .normal st := (rfl)
@[simp] theorem aw_exit {i : Nat} : aw P cx (.exit i) st Q = Q (.exit i) st := (rfl)
@[simp] theorem aw_ret : aw P cx .ret st Q = Q .ret st := (rfl)
@[simp] theorem aw_seq {a b : Code} : aw P cx (.seq a b) st Q = aw P cx a st (seqK P cx b Q) := (rfl)
@[simp] theorem aw_block {i : Nat} {c : Code} : aw P cx (.block i c) st Q = aw P cx c st (blkK i Q) := (rfl)
@[simp] theorem aw_regF {i : Nat} {l : List Oper} : aw P cx (.region i l.toArray false) st Q = regF P cx l.toArray (norm Q) st (isLf (lk i cx.ot)) := (rfl)
@[congr] theorem regF_congr {ops : Array Oper} {x y : Bool} (hs : st = st') (h : x = y) : regF P cx ops K st x = regF P cx ops K st' y := by rw [hs, h]
@[simp] theorem regF_false {l : List Oper} : regF P cx l.toArray K st false = rgW P cx l.toArray K l st := (rfl)
@[simp] theorem isLf_none : isLf none = false := (rfl)
@[congr] theorem regX_congr {ops : Array Oper} {x y : Option OT} {m' : List (Nat × Cls)} (hm : m = m') (hs : st = st') (h : x = y) : regX P cx m ops K st x = regX P cx m' ops K st' y := by rw [hm, hs, h]
@[congr] theorem walkT_congr {ops : Array Oper} {t : OT} {b : Bool} (hs : st = st') : walkT P cx ops K t b st = walkT P cx ops K t b st' := by rw [hs]
def wkK (P : Program) (cx : Cx) (ops : Array Oper) (K : AS → Prop) (sub : OT) (sl : Nat → AV) (d : Option Tmp) : AV → Tb → Prop := fun x tb => walkT P cx ops K sub true ⟨putS sl d x, tb⟩
def wkX (P : Program) (cx : Cx) (ops : Array Oper) (K : AS → Prop) (sub : OT) (st : AS) (o : Option Oper) : Prop := wkO P cx ops (walkT P cx ops K sub true) st o
@[congr] theorem wkX_congr {ops : Array Oper} {sub : OT} {x y : Option Oper} (hs : st = st') (h : x = y) : wkX P cx ops K sub st x = wkX P cx ops K sub st' y := by rw [hs, h]
@[simp] theorem aw_regT {i : Nat} {l : List Oper} : aw P cx (.region i l.toArray true) st Q = regX P cx (cx.m i) l.toArray (norm Q) st (lk i cx.ot) := (rfl)
@[simp] theorem regX_none {l : List Oper} : regX P cx m l.toArray K st none = rgD P cx m l.toArray K 0 l st := (rfl)
@[simp] theorem regX_one {l : List Oper} {i : Nat} {s : OT} : regX P cx m l.toArray K st (some (.one i s)) = walkT P cx l.toArray K (.one i s) true st := (rfl)
@[simp] theorem walkT_lf {l : List Oper} : walkT P cx l.toArray K .lf true st = K st := by simp [walkT]
@[simp] theorem walkT_lf' {l : List Oper} : walkT P cx l.toArray K .lf false st = True := by simp [walkT]
@[simp] theorem walkT_br {l : List Oper} {i : Nat} {sub sib : OT} {b : Bool} : walkT P cx l.toArray K (.br i sub sib) b st = (wkX P cx l.toArray K sub st l[i]? ∧ walkT P cx l.toArray K sib false st) := by
  simp only [walkT, wkX, List.getElem?_toArray]
def wkY (P : Program) (cx : Cx) (ops : Array Oper) (K : AS → Prop) (sub : OT) (st : AS) (o : Option Oper) : Prop := wkQ P ops (walkT P cx ops K sub true) st o
@[congr] theorem wkY_congr {ops : Array Oper} {sub : OT} {x y : Option Oper} (hs : st = st') (h : x = y) : wkY P cx ops K sub st x = wkY P cx ops K sub st' y := by rw [hs, h]
@[simp] theorem walkT_one {l : List Oper} {i : Nat} {sub : OT} {b : Bool} : walkT P cx l.toArray K (.one i sub) b st = wkY P cx l.toArray K sub st l[i]? := by
  simp only [walkT, wkY, List.getElem?_toArray]
@[simp] theorem wkY_some {l : List Oper} {d : Option Tmp} {op : Op} {ty : TypeId} {pos : String} {after : Array Edge} {sub : OT} :
    wkY P cx l.toArray K sub ⟨sl, tb⟩ (some ⟨d, op, ty, pos, after, none⟩) = opR P op (evS sl) (qK (wkK P cx l.toArray K sub sl d) tb) := (rfl)
@[simp] theorem wkX_some {l : List Oper} {d : Option Tmp} {op : Op} {ty : TypeId} {pos : String} {after : Array Edge} {sub : OT} :
    wkX P cx l.toArray K sub ⟨sl, tb⟩ (some ⟨d, op, ty, pos, after, none⟩) = opT P (cx.isMd d) op (evS sl) tb (wkK P cx l.toArray K sub sl d) := (rfl)
@[simp] theorem wkK_ap {l : List Oper} {sub : OT} {d : Option Tmp} {x : AV} : wkK P cx l.toArray K sub sl d x tb = walkT P cx l.toArray K sub true ⟨putS sl d x, tb⟩ := (rfl)
def condP (P : Program) (cx : Cx) (a b : Code) (st : AS) (Q : Exit → AS → Prop) : AV → Prop
  | .p (.sc (.bool t)) => if t = true then aw P cx a st Q else aw P cx b st Q
  | _ => False
@[simp] theorem aw_cond {c : Operand} {a b : Code} : aw P cx (.cond c a b) st Q = condP P cx a b st Q (evS st.sl c) := by
  simp only [aw, condP]; split <;> rename_i h <;> simp [h]
@[congr] theorem condP_congr {a b : Code} {x y : AV} (h : x = y) : condP P cx a b st Q x = condP P cx a b st Q y := by rw [h]
@[simp] theorem condP_true {a b : Code} : condP P cx a b st Q (.p (.sc (.bool true))) = aw P cx a st Q := by simp [condP]
@[simp] theorem condP_false {a b : Code} : condP P cx a b st Q (.p (.sc (.bool false))) = aw P cx b st Q := by simp [condP]

@[simp] theorem seqK_n {b : Code} : seqK P cx b Q .normal st = aw P cx b st Q := (rfl)
@[simp] theorem seqK_e {b : Code} {i : Nat} : seqK P cx b Q (.exit i) st = Q (.exit i) st := (rfl)
@[simp] theorem seqK_r {b : Code} : seqK P cx b Q .ret st = Q .ret st := (rfl)
@[simp] theorem blkK_n {i : Nat} : blkK i Q .normal st = Q .normal st := (rfl)
@[simp] theorem blkK_e {i j : Nat} : blkK i Q (.exit j) st = if j = i then Q .normal st else Q (.exit j) st := (rfl)
@[simp] theorem blkK_r {i : Nat} : blkK i Q .ret st = Q .ret st := (rfl)
@[simp] theorem norm_ap : norm Q st = Q .normal st := (rfl)

@[simp] theorem rgW_nil {ops : Array Oper} : rgW P cx ops K [] st = K st := (rfl)
@[simp] theorem rgD_nil {ops : Array Oper} {i : Nat} : rgD P cx m ops K i [] st = K st := (rfl)
@[simp] theorem rgW_cons {ops : Array Oper} {d : Option Tmp} {op : Op} {ty : TypeId} {pos : String} {after : Array Edge} {rest : List Oper} :
    rgW P cx ops K (⟨d, op, ty, pos, after, none⟩ :: rest) ⟨sl, tb⟩ = opT P (cx.isMd d) op (evS sl) tb (rgK P cx ops K rest sl d) := (rfl)
@[simp] theorem rgD_cons {ops : Array Oper} {d : Option Tmp} {op : Op} {ty : TypeId} {pos : String} {after : Array Edge} {rest : List Oper} {i : Nat} :
    rgD P cx m ops K i (⟨d, op, ty, pos, after, none⟩ :: rest) ⟨sl, tb⟩ = ykW P cx (cx.isMd d) op (evS sl) tb (rdK P cx m ops K i rest sl d) (clsOf m i) := (rfl)

/-- a guarded operation: the slot of its guard -/
def gslot (ops : List Oper) (j : Nat) : Option Tmp := (ops[j]?).bind (·.dst)
def gdG (a b : Prop) : Option Bool → Prop
  | some true => a
  | some false => b
  | none => False
def gdW (P : Program) (cx : Cx) (ops : Array Oper) (K : AS → Prop) (rest : List Oper) (sl : Nat → AV) (tb : Tb) (d : Option Tmp) (op : Op) (want : Bool) (x : AV) : Prop := gdG (opT P (cx.isMd d) op (evS sl) tb (rgK P cx ops K rest sl d)) (rgW P cx ops K rest ⟨putS sl d (.agg true []), tb⟩) (wantOf want x)
def gdD (P : Program) (cx : Cx) (m : List (Nat × Cls)) (ops : Array Oper) (K : AS → Prop) (i : Nat) (rest : List Oper) (sl : Nat → AV) (tb : Tb) (d : Option Tmp) (op : Op) (want : Bool) (x : AV) : Prop := gdG (ykW P cx (cx.isMd d) op (evS sl) tb (rdK P cx m ops K i rest sl d) (clsOf m i)) (rgD P cx m ops K (i + 1) rest ⟨putS sl d (.agg true []), tb⟩) (wantOf want x)
def slot (sl : Nat → AV) : Option Tmp → AV
  | some d => sl d
  | none => .any
@[simp] theorem rgW_gcons {l : List Oper} {d : Option Tmp} {op : Op} {ty : TypeId} {pos : String} {after : Array Edge} {rest : List Oper} {j : Nat} {want : Bool} :
    rgW P cx l.toArray K (⟨d, op, ty, pos, after, some (j, want)⟩ :: rest) ⟨sl, tb⟩ = gdW P cx l.toArray K rest sl tb d op want (slot sl (gslot l j)) := by
  simp only [rgW, wantedA, gslot, rgK, List.getElem?_toArray]
  generalize (l[j]?).bind (·.dst) = s
  cases s with
  | none => rfl
  | some t =>
    simp only [slot]
    generalize sl t = v
    unfold gdW
    cases wantOf want v with
    | none => rfl
    | some b => cases b <;> rfl
@[simp] theorem rgD_gcons {l : List Oper} {d : Option Tmp} {op : Op} {ty : TypeId} {pos : String} {after : Array Edge} {rest : List Oper} {j : Nat} {want : Bool} {i : Nat} :
    rgD P cx m l.toArray K i (⟨d, op, ty, pos, after, some (j, want)⟩ :: rest) ⟨sl, tb⟩ = gdD P cx m l.toArray K i rest sl tb d op want (slot sl (gslot l j)) := by
  simp only [rgD, wantedA, gslot, rdK, List.getElem?_toArray]
  generalize (l[j]?).bind (·.dst) = s
  cases s with
  | none => rfl
  | some t =>
    simp only [slot]
    generalize sl t = v
    unfold gdD
    cases wantOf want v with
    | none => rfl
    | some b => cases b <;> rfl
section
variable {ops : Array Oper} {rest : List Oper} {d : Option Tmp} {op : Op} {want : Bool} {i : Nat}
@[congr] theorem gdW_congr {x y : AV} (h : x = y) : gdW P cx ops K rest sl tb d op want x = gdW P cx ops K rest sl tb d op want y := by rw [h]
@[congr] theorem gdD_congr {x y : AV} (h : x = y) : gdD P cx m ops K i rest sl tb d op want x = gdD P cx m ops K i rest sl tb d op want y := by rw [h]
@[simp] theorem gdW_tt : gdW P cx ops K rest sl tb d op true (.p (.sc (.bool true))) = opT P (cx.isMd d) op (evS sl) tb (rgK P cx ops K rest sl d) := (rfl)
@[simp] theorem gdW_ff : gdW P cx ops K rest sl tb d op false (.p (.sc (.bool false))) = opT P (cx.isMd d) op (evS sl) tb (rgK P cx ops K rest sl d) := (rfl)
@[simp] theorem gdW_tf : gdW P cx ops K rest sl tb d op true (.p (.sc (.bool false))) = rgW P cx ops K rest ⟨putS sl d (.agg true []), tb⟩ := (rfl)
@[simp] theorem gdW_ft : gdW P cx ops K rest sl tb d op false (.p (.sc (.bool true))) = rgW P cx ops K rest ⟨putS sl d (.agg true []), tb⟩ := (rfl)
@[simp] theorem gdD_tt : gdD P cx m ops K i rest sl tb d op true (.p (.sc (.bool true))) = ykW P cx (cx.isMd d) op (evS sl) tb (rdK P cx m ops K i rest sl d) (clsOf m i) := (rfl)
@[simp] theorem gdD_ff : gdD P cx m ops K i rest sl tb d op false (.p (.sc (.bool false))) = ykW P cx (cx.isMd d) op (evS sl) tb (rdK P cx m ops K i rest sl d) (clsOf m i) := (rfl)
@[simp] theorem gdD_tf : gdD P cx m ops K i rest sl tb d op true (.p (.sc (.bool false))) = rgD P cx m ops K (i + 1) rest ⟨putS sl d (.agg true []), tb⟩ := (rfl)
@[simp] theorem gdD_ft : gdD P cx m ops K i rest sl tb d op false (.p (.sc (.bool true))) = rgD P cx m ops K (i + 1) rest ⟨putS sl d (.agg true []), tb⟩ := (rfl)
@[simp] theorem gdW_sk : gdW P cx ops K rest sl tb d op want (.agg true []) = rgW P cx ops K rest ⟨putS sl d (.agg true []), tb⟩ := (rfl)
@[simp] theorem rgK_ap {x : AV} : rgK P cx ops K rest sl d x tb = rgW P cx ops K rest ⟨putS sl d x, tb⟩ := (rfl)
@[simp] theorem rdK_ap {x : AV} : rdK P cx m ops K i rest sl d x tb = rgD P cx m ops K (i + 1) rest ⟨putS sl d x, tb⟩ := (rfl)
@[congr] theorem rgK_congr {x y : AV} (h : x = y) (h2 : tb = tb') : rgK P cx ops K rest sl d x tb = rgK P cx ops K rest sl d y tb' := by rw [h, h2]
@[congr] theorem rdK_congr {x y : AV} (h : x = y) (h2 : tb = tb') : rdK P cx m ops K i rest sl d x tb = rdK P cx m ops K i rest sl d y tb' := by rw [h, h2]
end
@[simp] theorem gslot_zero {o : Oper} {l : List Oper} : gslot (o :: l) 0 = o.dst := (rfl)
@[simp] theorem gslot_succ {o : Oper} {l : List Oper} {j : Nat} : gslot (o :: l) (j + 1) = gslot l j := (rfl)
@[simp] theorem slot_some {d : Tmp} : slot sl (some d) = sl d := (rfl)
@[simp] theorem qK_ap {x : AV} : qK kt tb x = kt x tb := (rfl)
@[congr] theorem qK_congr {x y : AV} (h : x = y) : qK kt tb x = qK kt tb y := by rw [h]

/-! the state -/
@[simp] theorem put_some {d : Tmp} {x : AV} : putS sl (some d) x = upd sl d x := (rfl)
@[simp] theorem put_none {x : AV} : putS sl none x = sl := (rfl)
@[simp] theorem ev_tmp {t : Tmp} : evS sl (.tmp t) = sl t := (rfl)
@[simp] theorem ev_func {f : FuncId} : evS sl (.func f) = .p (.fn (.func f) []) := (rfl)
@[simp] theorem ev_bool {b : Bool} : evS sl (.const (.bool b)) = .p (.sc (.bool b)) := (rfl)
@[simp] theorem ev_int {c : IntKind} {n : Int} : evS sl (.const (.int c n)) = .p (.sc (.int c n)) := (rfl)
@[simp] theorem ev_str {s : ByteArray} : evS sl (.const (.string s)) = .p (.sc (.string s)) := (rfl)
@[simp] theorem ev_nil : evS sl (.const (.slice none 0 0)) = .p .nil := (rfl)
@[simp] theorem ev_ptr : evS sl (.const (.pointer none)) = .p (.sc (.pointer none)) := (rfl)
@[simp] theorem upd_same {f : Nat → AV} {d : Nat} {x : AV} : upd f d x d = x := by simp [upd]
@[simp] theorem upd_ne {f : Nat → AV} {d t : Nat} {x : AV} (h : (t == d) = false) : upd f d x t = f t := by simp at h; simp [upd, h]

/-! the tables -/
@[simp] theorem lk_nil' {α : Type} {t : Nat} : lk t ([] : List (Nat × α)) = none := (rfl)
@[simp] theorem lk_cons' {α : Type} {t i : Nat} {v : α} {l : List (Nat × α)} : lk t ((i, v) :: l) = if t = i then some v else lk t l := (rfl)
@[simp] theorem del_nil' {α : Type} {t : Nat} : del t ([] : List (Nat × α)) = [] := (rfl)
@[simp] theorem del_cons' {α : Type} {t i : Nat} {v : α} {l : List (Nat × α)} : del t ((i, v) :: l) = if t = i then del t l else (i, v) :: del t l := (rfl)
@[simp] theorem delAll_nil' {α : Type} {l : List (Nat × α)} : delAll [] l = l := (rfl)
@[simp] theorem delAll_cons' {α : Type} {i : Nat} {v : α} {s l : List (Nat × α)} : delAll ((i, v) :: s) l = del i (delAll s l) := (rfl)
@[simp] theorem addOb_mk {bx : List (Nat × Ob)} {rw : List (Nat × TypeId × Nat)} {nx : Nat} {o : Ob} : Tb.addOb ⟨bx, rw, nx⟩ o = ⟨(nx, o) :: bx, rw, nx + 1⟩ := (rfl)
@[simp] theorem delOb_mk {bx : List (Nat × Ob)} {rw : List (Nat × TypeId × Nat)} {nx id : Nat} : Tb.delOb ⟨bx, rw, nx⟩ id = ⟨del id bx, rw, nx⟩ := (rfl)
@[simp] theorem addRw_mk {bx : List (Nat × Ob)} {rw : List (Nat × TypeId × Nat)} {nx : Nat} {e : TypeId} {s : Nat} : Tb.addRw ⟨bx, rw, nx⟩ e s = ⟨bx, (nx, e, s) :: rw, nx + 1⟩ := (rfl)
@[simp] theorem setOb_mk {bx : List (Nat × Ob)} {rw : List (Nat × TypeId × Nat)} {nx id : Nat} {o : Ob} : Tb.setOb ⟨bx, rw, nx⟩ id o = ⟨(id, o) :: del id bx, rw, nx⟩ := (rfl)
@[simp] theorem appTb_none {bx : List (Nat × Ob)} {rw : List (Nat × TypeId × Nat)} {nx : Nat} {e : TypeId} {s : Nat} : appTb ⟨bx, rw, nx⟩ none e s = ⟨bx, (nx, e, s) :: rw, nx + 1⟩ := (rfl)
@[simp] theorem appTb_some {bx : List (Nat × Ob)} {rw : List (Nat × TypeId × Nat)} {nx id : Nat} {e : TypeId} {s : Nat} : appTb ⟨bx, rw, nx⟩ (some id) e s = ⟨bx, (nx, e, s) :: del id rw, nx + 1⟩ := (rfl)
@[simp] theorem merge_mk {bx bx1 bx2 : List (Nat × Ob)} {rw rw1 rw2 : List (Nat × TypeId × Nat)} {nx nx1 nx2 : Nat} : Tb.merge ⟨bx, rw, nx⟩ ⟨bx1, rw1, nx1⟩ ⟨bx2, rw2, nx2⟩ = ⟨bx2 ++ delAll bx1 bx, rw2 ++ delAll rw1 rw, nx2⟩ := (rfl)
@[simp] theorem sub1_nil' {α : Type} {l : List (Nat × α)} : sub1 l [] = True := (rfl)
@[simp] theorem sub1_cons' {α : Type} {l s : List (Nat × α)} {i : Nat} {v : α} : sub1 l ((i, v) :: s) = (lk i l = some v ∧ sub1 l s) := (rfl)
@[simp] theorem isMd_some {md : List Nat} {cls : List (Nat × List (Nat × Cls))} {lab : List (Nat × Nat)} {nx0 : Nat} {ot : List (Nat × OT)} {d : Tmp} : Cx.isMd ⟨md, cls, lab, nx0, ot⟩ (some d) = md.contains d := (rfl)
@[simp] theorem isMd_none : Cx.isMd cx none = false := (rfl)
def clsL : Option (List (Nat × Cls)) → List (Nat × Cls)
  | some l => l
  | none => []
def clsG : Option Cls → Cls
  | some c => c
  | none => .q
@[simp] theorem cxm_mk {md : List Nat} {cls : List (Nat × List (Nat × Cls))} {lab : List (Nat × Nat)} {nx0 : Nat} {ot : List (Nat × OT)} {d : Nat} : Cx.m ⟨md, cls, lab, nx0, ot⟩ d = clsL (lk d cls) := by
  unfold Cx.m mOf clsL; cases lk d cls <;> rfl
@[simp] theorem clsL_some {l : List (Nat × Cls)} : clsL (some l) = l := (rfl)
@[simp] theorem clsL_none : clsL none = [] := (rfl)
@[simp] theorem clsOf_mk {l : List (Nat × Cls)} {i : Nat} : clsOf l i = clsG (lk i l) := by
  unfold clsOf clsG; cases lk i l <;> rfl
@[simp] theorem clsG_some {c : Cls} : clsG (some c) = c := (rfl)
@[simp] theorem clsG_none : clsG none = .q := (rfl)
def lbG : Option Nat → Nat
  | some c => c
  | none => 0
@[simp] theorem lb_mk {md : List Nat} {cls : List (Nat × List (Nat × Cls))} {lab : List (Nat × Nat)} {nx0 : Nat} {ot : List (Nat × OT)} {l : Nat} : Cx.lb ⟨md, cls, lab, nx0, ot⟩ l = lbG (lk l lab) := by
  unfold Cx.lb lbG; cases lk l lab <;> rfl
@[simp] theorem lbG_some {c : Nat} : lbG (some c) = c := (rfl)
/-! as values that last -/
def nmG (t : Bool) (xs : List AV) : Option (List PC) → AV
  | some ys => .p (.agg t ys)
  | none => .agg t xs
def consP : Option PC → Option (List PC) → Option (List PC)
  | some x, some l => some (x :: l)
  | _, _ => none
def pcG (t : Bool) : Option (List PC) → Option PC
  | some ys => some (.agg t ys)
  | none => none
@[simp] theorem pc_p {x : PC} : AV.pc (.p x) = some x := (rfl)
@[simp] theorem pc_own {i : Nat} {xs : List PC} : AV.pc (.own i xs) = some (.sl xs) := (rfl)
@[simp] theorem pc_full {xs : List PC} : AV.pc (.full xs) = some (.sl xs) := (rfl)
@[simp] theorem pc_agg {t : Bool} {xs : List AV} : AV.pc (.agg t xs) = pcG t (AV.pc.pcs xs) := by
  simp only [AV.pc, pcG]; cases AV.pc.pcs xs <;> rfl
@[simp] theorem pcs_nil : AV.pc.pcs [] = some [] := (rfl)
@[simp] theorem pcs_cons {x : AV} {l : List AV} : AV.pc.pcs (x :: l) = consP x.pc (AV.pc.pcs l) := by
  simp only [AV.pc.pcs]; cases x.pc <;> cases AV.pc.pcs l <;> rfl
@[simp] theorem pcs_map {l : List PC} : AV.pc.pcs (l.map .p) = some l := by
  induction l with
  | nil => rfl
  | cons x l ih => simp [ih, consP]
@[simp] theorem consP_some {x : PC} {l : List PC} : consP (some x) (some l) = some (x :: l) := (rfl)
@[simp] theorem pcG_some {t : Bool} {l : List PC} : pcG t (some l) = some (.agg t l) := (rfl)
@[simp] theorem nm_p {x : PC} : AV.nm (.p x) = .p x := (rfl)
@[simp] theorem nm_own {i : Nat} {xs : List PC} : AV.nm (.own i xs) = .p (.sl xs) := (rfl)
@[simp] theorem nm_full {xs : List PC} : AV.nm (.full xs) = .p (.sl xs) := (rfl)
@[simp] theorem nm_obj {i o : Nat} : AV.nm (.obj i o) = .obj i o := (rfl)
@[simp] theorem nm_agg {t : Bool} {xs : List AV} : AV.nm (.agg t xs) = nmG t xs (AV.pc.pcs xs) := by
  simp only [AV.nm, pc_agg]; cases AV.pc.pcs xs <;> rfl
@[simp] theorem nmG_some {t : Bool} {xs : List AV} {ys : List PC} : nmG t xs (some ys) = .p (.agg t ys) := (rfl)
/-! the operations -/
variable {e : Operand → AV} {md : Bool}
@[simp] theorem t_move {x : Operand} : opT P md (.move x) e tb kt = opR P (.move x) e (qK kt tb) := (rfl)
@[simp] theorem t_assign {x : Operand} : opT P md (.assign x) e tb kt = opR P (.assign x) e (qK kt tb) := (rfl)
@[simp] theorem t_pick {c a b : Operand} : opT P md (.pick c a b) e tb kt = opR P (.pick c a b) e (qK kt tb) := (rfl)
@[simp] theorem t_fieldAddr {t : TypeId} {x : Operand} {i : Nat} : opT P md (.fieldAddr t x i) e tb kt = opR P (.fieldAddr t x i) e (qK kt tb) := (rfl)
@[simp] theorem t_field {t : TypeId} {x : Operand} {i : Nat} : opT P md (.field t x i) e tb kt = opR P (.field t x i) e (qK kt tb) := (rfl)
@[simp] theorem t_indexAddr {t : TypeId} {x i : Operand} : opT P md (.indexAddr t x i) e tb kt = opR P (.indexAddr t x i) e (qK kt tb) := (rfl)
@[simp] theorem t_index {t : TypeId} {x i : Operand} : opT P md (.index t x i) e tb kt = opR P (.index t x i) e (qK kt tb) := (rfl)
@[simp] theorem t_slice {t : TypeId} {x : Operand} {lo hi mx : Option Operand} : opT P md (.slice t x lo hi mx) e tb kt = opR P (.slice t x lo hi mx) e (qK kt tb) := (rfl)
@[simp] theorem t_binOp {op : BinOp} {t t2 : TypeId} {x y : Operand} : opT P md (.binOp op t x y t2) e tb kt = opR P (.binOp op t x y t2) e (qK kt tb) := (rfl)
@[simp] theorem t_unOp {op : UnOp} {t : TypeId} {x : Operand} : opT P md (.unOp op t x) e tb kt = opR P (.unOp op t x) e (qK kt tb) := (rfl)
@[simp] theorem t_convert {s d : TypeId} {x : Operand} : opT P md (.convert s d x) e tb kt = convT P md s d tb kt (e x) := (rfl)
@[simp] theorem convT_p {s d : TypeId} {x : PC} : convT P false s d tb kt (.p x) = convW P s d (qK kt tb) (.p x) := (rfl)
@[simp] theorem convT_own {s d : TypeId} {i : Nat} {xs : List PC} : convT P false s d tb kt (.own i xs) = convW P s d (qK kt tb) (AV.own i xs).nm := (rfl)
@[simp] theorem convT_full {s d : TypeId} {xs : List PC} : convT P false s d tb kt (.full xs) = convW P s d (qK kt tb) (AV.full xs).nm := (rfl)
@[simp] theorem convT_view {s d : TypeId} {id f n z : Nat} {m : Option Nat} (h : isStr P d = true) : convT P md s d tb kt (.view id f n z m) = cvV P s d tb kt (.view id f n z m) := by simp only [convT, h, if_true]
@[simp] theorem convT_str {s d : TypeId} {b : ByteArray} : convT P true s d tb kt (.p (.sc (.string b))) = cvB P s d tb kt b (elTy P d) := (rfl)
@[congr] theorem convT_congr {s d : TypeId} {x x' : AV} (h : x = x') : convT P md s d tb kt x = convT P md s d tb kt x' := by rw [h]
@[congr] theorem cvB_congr {s d : TypeId} {b : ByteArray} {x x' : Option (TypeId × Nat × Nat)} (h : x = x') : cvB P s d tb kt b x = cvB P s d tb kt b x' := by rw [h]
@[simp] theorem cvB_some {s d : TypeId} {b : ByteArray} {z : TypeId × Nat × Nat} (h1 : isStr P s = true) (h2 : isBytes P d = true) (h3 : z.2.1 = 1) :
    cvB P s d tb kt b (some z) = ((bs b).length ≤ 9223372036854775807 ∧ kt (.view tb.nx 0 (bs b).length 1 none) (tb.addOb ⟨z.1 + 1000000, 1, (bytesPC (bs b)).map .p⟩)) := by
  obtain ⟨z1, z2, z3⟩ := z; simp only at h3; simp [cvB, h1, h2, h3]
theorem cv_of {s d : TypeId} {x : AV} (l : List UInt8) (h1 : isBytes P s = true) (h2 : isStr P d = true) (h3 : borF tb.bx 1 x (.sl (bytesPC l))) (hk : kt (.p (.str l)) tb) : cvV P s d tb kt x := ⟨h1, h2, l, h3, hk⟩
@[simp] theorem t_makeFunc {f : Fn} {fs cs : Array Operand} : opT P md (.makeFunc f fs cs) e tb kt = opR P (.makeFunc f fs cs) e (qK kt tb) := (rfl)
@[simp] theorem t_extract {x : Operand} {i : Nat} : opT P md (.extract x i) e tb kt = opR P (.extract x i) e (qK kt tb) := (rfl)
@[simp] theorem t_nilCheck {x : Operand} : opT P md (.nilCheck x) e tb kt = opR P (.nilCheck x) e (qK kt tb) := (rfl)
@[simp] theorem t_build {t : TypeId} {ps : Array (Nat × Operand)} : opT P md (.build t ps) e tb kt = opR P (.build t ps) e (qK kt tb) := (rfl)
@[simp] theorem t_buildSlice {t : TypeId} {n : Nat} {ps : Array (Nat × Operand)} : opT P false (.buildSlice t n ps) e tb kt = opR P (.buildSlice t n ps) e (qK kt tb) := (rfl)
@[simp] theorem t_boxF {t : TypeId} {x : Operand} : opT P false (.box t x) e tb kt = opR P (.box t x) e (qK kt tb) := (rfl)
@[simp] theorem t_boxT {t : TypeId} {x : Operand} : opT P true (.box t x) e tb kt = boxT P t tb kt (e x) := (rfl)
@[simp] theorem t_alloc' {t : TypeId} : opT P md (.alloc t) e tb kt = allocT P tb kt (zeroC P t) t := (rfl)
@[simp] theorem t_load' {t : TypeId} {x : Operand} : opT P md (.load t x) e tb kt = loadT P t tb kt (e x) := (rfl)
@[simp] theorem t_store' {t : TypeId} {x y : Operand} : opT P md (.store t x y) e tb kt = storeT P t tb kt (e x) (e y) := (rfl)
@[simp] theorem t_app {x y : Operand} {t u : TypeId} : opT P md (.call ⟨.builtin .append, #[x, y], #[t, u]⟩) e tb kt = appA P md u tb kt (elTy P t) (e x) (e y) := by simp [opT]
@[simp] theorem t_makeSlice {t : TypeId} {x y : Operand} : opT P md (.makeSlice t x y) e tb kt = mkT P tb kt (e x).nm (e y).nm (elTy P t) := (rfl)
@[congr] theorem appA_congr {md md' : Bool} {u : TypeId} {z z' : Option (TypeId × Nat × Nat)} {x x' y y' : AV} (h0 : md = md') (h3 : z = z') (h : x = x') (h2 : y = y') : appA P md u tb kt z x y = appA P md' u tb kt z' x' y' := by rw [h0, h, h2, h3]
@[congr] theorem mkT_congr {z z' : Option (TypeId × Nat × Nat)} {x x' y y' : AV} (h : x = x') (h2 : y = y') (h3 : z = z') : mkT P tb kt x y z = mkT P tb kt x' y' z' := by rw [h, h2, h3]
@[simp] theorem appA_own {u : TypeId} {z : Option (TypeId × Nat × Nat)} {i : Nat} {x : List PC} {y : AV} : appA P false u tb kt z (.own i x) y = appT P u tb kt (.own i x) y.nm z := (rfl)
@[simp] theorem appA_full {u : TypeId} {z : Option (TypeId × Nat × Nat)} {x : List PC} {y : AV} : appA P false u tb kt z (.full x) y = appT P u tb kt (.full x) y.nm z := (rfl)
@[simp] theorem appA_view {md : Bool} {u : TypeId} {z : Option (TypeId × Nat × Nat)} {id f n s : Nat} {m : Option Nat} {y : AV} : appA P md u tb kt z (.view id f n s m) y = appW P u tb kt id f n s m y z := (rfl)
section
variable {u e : TypeId} {id f n s by_ s' : Nat} {m : Option Nat} {y y' : AV} {ob : Ob}
@[simp] theorem appW_some : appW P u tb kt id f n s m y (some (e, s', by_)) = (s' = s ∧ appH P u tb kt id f n s m by_ e y (Av.intOf P u) (lk id tb.bx)) := (rfl)
@[congr] theorem appH_congr {a a' : Option IntKind} {b b' : Option Ob} (h : y = y') (h1 : a = a') (h2 : b = b') : appH P u tb kt id f n s m by_ e y a b = appH P u tb kt id f n s m by_ e y' a' b' := by rw [h, h1, h2]
@[simp] theorem appH_l : appH P u tb kt id f n s m by_ e y none (some ob) = (ob.sz = s ∧ (f + n) * s ≤ ob.xs.length ∧ appG P u tb kt id f n s by_ e ob y m) := (rfl)
@[simp] theorem appG_n : appG P u tb kt id f n s by_ e ob y none = srcW P tb u s (appNG tb kt id f n s by_ e ob) y := (rfl)
variable {kz : Nat → List AV → Prop} {j : Nat} {zs : List AV}
@[simp] theorem appNG_ap : appNG tb kt id f n s by_ e ob j zs = (f = 0 ∧ ob.el = e ∧ (n + j) * by_ ≤ 140737488355328 ∧ n + j ≤ 9223372036854775807 ∧ kt (.view tb.nx 0 (n + j) s none) ((tb.delOb id).addOb ⟨e, s, ob.xs.take (n * s) ++ zs⟩)) := (rfl)
@[simp] theorem srcW_sl {ys : List PC} (h : (elSize P u).isSome = true) : srcW P tb u s kz (.p (.sl ys)) = ((∀ y ∈ ys, y.width = s) ∧ (∀ y ∈ ys, noTup y = true) ∧ kz ys.length (ys.flatMap pcCells)) := by simp [srcW, h]
@[simp] theorem srcW_full {ys : List PC} : srcW P tb u s kz (.full ys) = srcW P tb u s kz (.p (.sl ys)) := (rfl)
end
@[simp] theorem t_call' {f : Operand} {l : List Operand} {ts : Array TypeId} : opT P md (.call ⟨.value f, l.toArray, ts⟩) e tb kt = callT P (l.map e) tb kt (e f).nm := by simp [opT]
@[simp] theorem t_len {x : Operand} {t : TypeId} : opT P md (.call ⟨.builtin .len, #[x], #[t]⟩) e tb kt = opR P (.call ⟨.builtin .len, #[x], #[t]⟩) e (qK kt tb) := (rfl)
@[simp] theorem t_min {l : Array Operand} {ts : Array TypeId} : opT P md (.call ⟨.builtin .min, l, ts⟩) e tb kt = opR P (.call ⟨.builtin .min, l, ts⟩) e (qK kt tb) := (rfl)
@[simp] theorem t_max {l : Array Operand} {ts : Array TypeId} : opT P md (.call ⟨.builtin .max, l, ts⟩) e tb kt = opR P (.call ⟨.builtin .max, l, ts⟩) e (qK kt tb) := (rfl)
@[congr] theorem opT_congr {op : Op} {md md' : Bool} (h : md = md') (h2 : tb = tb') : opT P md op e tb kt = opT P md' op e tb' kt := by rw [h, h2]
@[congr] theorem ykW_congr {op : Op} {md md' : Bool} {c c' : Cls} (h : md = md') (h2 : tb = tb') (h3 : c = c') : ykW P cx md op e tb kt c = ykW P cx md' op e tb' kt c' := by rw [h, h2, h3]
@[congr] theorem opR_congr {op : Op} {k : AV → Prop} {e e' : Operand → AV} (h : e = e') : opR P op e k = opR P op e' k := by rw [h]
@[simp] theorem yk_q {op : Op} : ykW P cx md op e tb kt .q = opR P op e (qK kt tb) := (rfl)
@[simp] theorem yk_r {t : TypeId} {x : Operand} {l : Nat} : ykW P cx md (.load t x) e tb kt (.r l) = readW P cx l t tb kt (e x) := (rfl)
@[simp] theorem yk_s {t : TypeId} {x y : Operand} {l : Nat} {kp : List Nat} : ykW P cx md (.store t x y) e tb kt (.s l kp) = stoW P cx l t tb (keepK cx kp tb kt) (e y) (e x) := (rfl)
@[congr] theorem stoW_congr {l : Nat} {t : TypeId} {x x' y y' : AV} (h : y = y') (h2 : x = x') : stoW P cx l t tb kt y x = stoW P cx l t tb kt y' x' := by rw [h, h2]
@[simp] theorem stoW_obj {l : Nat} {t : TypeId} {id off : Nat} {y : AV} : stoW P cx l t tb kt y (.obj id off) = (id = cx.lb l ∧ storeT P t tb kt (.obj id off) y) := (rfl)
@[simp] theorem yk_app {x y : Operand} {t u : TypeId} {ls : List Nat} : ykW P cx md (.call ⟨.builtin .append, #[x, y], #[t, u]⟩) e tb kt (.f ls) = appT P u tb kt (e x) (e y).nm (elTy P t) := by simp [ykW]
@[simp] theorem yk_w {op : Op} {kp : List Nat} : ykW P cx md op e tb kt (.w kp) = opT P md op e tb (keepK cx kp tb kt) := (rfl)
@[simp] theorem keepK_ap {kp : List Nat} {tb0 : Tb} {x : AV} : keepK cx kp tb0 kt x tb = (keeps cx kp tb0 tb ∧ kt x tb) := (rfl)
@[simp] theorem keeps_nil {tb0 : Tb} : keeps cx [] tb0 tb = True := by simp [keeps]
@[simp] theorem keeps_cons {tb0 : Tb} {l : Nat} {kp : List Nat} : keeps cx (l :: kp) tb0 tb = (lk (cx.lb l) tb.bx = lk (cx.lb l) tb0.bx ∧ keeps cx kp tb0 tb) := by simp [keeps]

@[simp] theorem q_move {x : Operand} : opR P (.move x) e k = k (e x) := (rfl)
@[simp] theorem q_assign {x : Operand} : opR P (.assign x) e k = k (e x) := (rfl)
@[simp] theorem q_pick {c a b : Operand} : opR P (.pick c a b) e k = pickW k (e a) (e b) (e c).nm := (rfl)
@[simp] theorem q_box {t : TypeId} {x : Operand} : opR P (.box t x) e k = boxW k (e x).nm := (rfl)
@[simp] theorem q_load {t : TypeId} {x : Operand} : opR P (.load t x) e k = loadW P t k (e x).nm := (rfl)
@[simp] theorem q_fieldAddr {t : TypeId} {x : Operand} {i : Nat} : opR P (.fieldAddr t x i) e k = faO P t i k (e x) := (rfl)
@[simp] theorem q_field {t : TypeId} {x : Operand} {i : Nat} : opR P (.field t x i) e k = fieldQ P t i k (e x) := (rfl)
@[simp] theorem q_indexAddr {t : TypeId} {x i : Operand} : opR P (.indexAddr t x i) e k = iaQ P t k (e x) (e i) := (rfl)
@[simp] theorem q_index {t : TypeId} {x i : Operand} : opR P (.index t x i) e k = indexW P t k (e x).nm (e i).nm := (rfl)
@[simp] theorem q_slice {t : TypeId} {x : Operand} {lo hi : Option Operand} : opR P (.slice t x lo hi none) e k = slQ P t (lo.map fun y => (e y).nm) (hi.map fun y => (e y).nm) k (e x) := (rfl)
@[simp] theorem q_binOp {op : BinOp} {t t' : TypeId} {x y : Operand} : opR P (.binOp op t x y t') e k = binQ P op t k (e x) (e y) := (rfl)
@[simp] theorem q_unOp {op : UnOp} {t : TypeId} {x : Operand} : opR P (.unOp op t x) e k = unopW op k (e x).nm := (rfl)
@[simp] theorem q_makeFunc {f : Fn} {cs : List Operand} : opR P (.makeFunc f #[] cs.toArray) e k = fnW f k (cs.map e) (allP (cs.map fun y => (e y).nm)) := by simp [opR, opQ, opE]
@[simp] theorem q_extract {x : Operand} {i : Nat} : opR P (.extract x i) e k = extQ i k (e x) := (rfl)
@[simp] theorem q_nilCheck {x : Operand} : opR P (.nilCheck x) e k = nilQ k (e x) := (rfl)
@[simp] theorem q_build {t : TypeId} {l : List (Nat × Operand)} : opR P (.build t l.toArray) e k = buildW P t k (l.map fun p => (p.1, e p.2)) := (rfl)
@[simp] theorem q_buildSlice {t : TypeId} {n : Nat} {l : List (Nat × Operand)} : opR P (.buildSlice t n l.toArray) e k = litW P t n k (l.map fun p => (p.1, e p.2)) := (rfl)
@[simp] theorem q_len {x : Operand} {t : TypeId} : opR P (.call ⟨.builtin .len, #[x], #[t]⟩) e k = lenQ P t k (e x) := by simp [opR]
@[simp] theorem q_min {l : List Operand} {ts : Array TypeId} : opR P (.call ⟨.builtin .min, l.toArray, ts⟩) e k = minW k (l.map fun y => (e y).nm) := by simp [opR, opQ, opE]
@[simp] theorem q_max {l : List Operand} {ts : Array TypeId} : opR P (.call ⟨.builtin .max, l.toArray, ts⟩) e k = maxW k (l.map fun y => (e y).nm) := by simp [opR, opQ, opE]
@[simp] theorem q_value {f : Operand} {l : List Operand} {ts : Array TypeId} : opR P (.call ⟨.value f, l.toArray, ts⟩) e k = valueW P k (allP (l.map fun y => (e y).nm)) (e f).nm := by simp [opR, opQ, opE]

@[congr] theorem pickW_congr {x x' y y' c c' : AV} (h1 : x = x') (h2 : y = y') (h3 : c = c') : pickW k x y c = pickW k x' y' c' := by rw [h1, h2, h3]
@[congr] theorem boxW_congr {x x' : AV} (h : x = x') : boxW k x = boxW k x' := by rw [h]
@[congr] theorem loadW_congr {t : TypeId} {x x' : AV} (h : x = x') : loadW P t k x = loadW P t k x' := by rw [h]
@[congr] theorem indexAddrW_congr {t : TypeId} {x x' y y' : AV} (h : x = x') (h2 : y = y') : indexAddrW P t k x y = indexAddrW P t k x' y' := by rw [h, h2]
@[congr] theorem faO_congr {t : TypeId} {i : Nat} {x x' : AV} (h : x = x') : faO P t i k x = faO P t i k x' := by rw [h]
@[congr] theorem iaQ_congr {t : TypeId} {x x' y y' : AV} (h : x = x') (h2 : y = y') : iaQ P t k x y = iaQ P t k x' y' := by rw [h, h2]
@[congr] theorem slQ_congr {t : TypeId} {lo lo' hi hi' : Option AV} {x x' : AV} (h1 : lo = lo') (h2 : hi = hi') (h : x = x') : slQ P t lo hi k x = slQ P t lo' hi' k x' := by rw [h, h1, h2]
@[congr] theorem lenQ_congr {t : TypeId} {x x' : AV} (h : x = x') : lenQ P t k x = lenQ P t k x' := by rw [h]
@[congr] theorem fieldQ_congr {t : TypeId} {i : Nat} {x x' : AV} (h : x = x') : fieldQ P t i k x = fieldQ P t i k x' := by rw [h]
@[congr] theorem extQ_congr {i : Nat} {x x' : AV} (h : x = x') : extQ i k x = extQ i k x' := by rw [h]
@[congr] theorem nilQ_congr {x x' : AV} (h : x = x') : nilQ k x = nilQ k x' := by rw [h]
@[congr] theorem binQ_congr {op : BinOp} {t : TypeId} {x x' y y' : AV} (h : x = x') (h2 : y = y') : binQ P op t k x y = binQ P op t k x' y' := by rw [h, h2]
@[congr] theorem indexW_congr {t : TypeId} {x x' y y' : AV} (h : x = x') (h2 : y = y') : indexW P t k x y = indexW P t k x' y' := by rw [h, h2]
@[congr] theorem binopW_congr {op : BinOp} {t : TypeId} {x x' y y' : AV} (h : x = x') (h2 : y = y') : binopW P op t k x y = binopW P op t k x' y' := by rw [h, h2]
@[congr] theorem unopW_congr {op : UnOp} {x x' : AV} (h : x = x') : unopW op k x = unopW op k x' := by rw [h]
@[congr] theorem convW_congr {s d : TypeId} {x x' : AV} (h : x = x') : convW P s d k x = convW P s d k x' := by rw [h]
@[congr] theorem fnW_congr {f : Fn} {ys zs : List AV} {x x' : Option (List PC)} (hy : ys = zs) (h : x = x') : fnW f k ys x = fnW f k zs x' := by rw [h, hy]
@[congr] theorem minW_congr {x x' : List AV} (h : x = x') : minW k x = minW k x' := by rw [h]
@[congr] theorem maxW_congr {x x' : List AV} (h : x = x') : maxW k x = maxW k x' := by rw [h]
@[congr] theorem valueW_congr {y y' : Option (List PC)} {x x' : AV} (h2 : y = y') (h : x = x') : valueW P k y x = valueW P k y' x' := by rw [h, h2]
@[congr] theorem callW_congr {g : FuncId} {xs xs' : List PC} (h : xs = xs') : callW P g xs k = callW P g xs' k := by rw [h]
@[congr] theorem buildW_congr {t : TypeId} {x x' : List (Nat × AV)} (h : x = x') : buildW P t k x = buildW P t k x' := by rw [h]
@[congr] theorem litW_congr {t : TypeId} {n : Nat} {x x' : List (Nat × AV)} (h : x = x') : litW P t n k x = litW P t n k x' := by rw [h]
@[congr] theorem boxT_congr {t : TypeId} {x x' : AV} (h : x = x') : boxT P t tb kt x = boxT P t tb kt x' := by rw [h]
@[congr] theorem allocT_congr {t : TypeId} {x x' : Option (List PC)} (h : x = x') : allocT P tb kt x t = allocT P tb kt x' t := by rw [h]
@[congr] theorem loadT_congr {t : TypeId} {x x' : AV} (h : x = x') : loadT P t tb kt x = loadT P t tb kt x' := by rw [h]
@[congr] theorem storeT_congr {t : TypeId} {x x' y y' : AV} (h : x = x') (h2 : y = y') : storeT P t tb kt x y = storeT P t tb kt x' y' := by rw [h, h2]
@[congr] theorem appT_congr {u : TypeId} {x x' y y' : AV} {z z' : Option (TypeId × Nat × Nat)} (h : x = x') (h2 : y = y') (h3 : z = z') : appT P u tb kt x y z = appT P u tb kt x' y' z' := by rw [h, h2, h3]
@[congr] theorem callT_congr {l l' : List AV} {x x' : AV} (h : l = l') (h2 : x = x') : callT P l tb kt x = callT P l' tb kt x' := by rw [h, h2]
@[congr] theorem readW_congr {l : Nat} {t : TypeId} {x x' : AV} (h : x = x') : readW P cx l t tb kt x = readW P cx l t tb kt x' := by rw [h]
@[congr] theorem keepK_congr {kp : List Nat} {tb0 : Tb} {x y : AV} (h : x = y) (h2 : tb = tb') : keepK cx kp tb0 kt x tb = keepK cx kp tb0 kt y tb' := by rw [h, h2]

/-! calls -/
def callP (P : Program) (gf : FuncId) (caps : List PC) (args : List AV) (tb : Tb) (kt : AV → Tb → Prop) : Prop :=
  (∃ xs, allP (args.map AV.nm) = some xs ∧ callW P gf (xs.map PC.wk ++ caps) (qK kt tb)) ∨ gcallW P gf caps args tb kt ∨ bcallW P gf caps args tb kt ∨ (caps = [] ∧ ovlX P gf args tb kt)
@[simp] theorem callT_fn {l : List AV} {gf : FuncId} {caps : List PC} : callT P l tb kt (.p (.fn (.func gf) caps)) = callP P gf caps l tb kt := (rfl)
@[congr] theorem callP_congr {gf : FuncId} {caps : List PC} {l l' : List AV} (h : l = l') : callP P gf caps l tb kt = callP P gf caps l' tb kt := by rw [h]
theorem call_of {g : FuncId} {xs : List PC} {r : PC} (h : PureC P g xs r) (hk : k (.p r)) : callW P g xs k := ⟨r, h, hk⟩
def argP (caps : List PC) : Option (List PC) → Option (List PC)
  | some xs => some (xs.map PC.wk ++ caps)
  | none => none
@[simp] theorem argP_some {caps xs : List PC} : argP caps (some xs) = some (xs.map PC.wk ++ caps) := (rfl)
/-- a call of a function that only computes -/
theorem pcall_of {gf : FuncId} {caps ys : List PC} {l : List AV} {r : PC} (h : PureC P gf ys r) (hl : argP caps (allP (l.map AV.nm)) = some ys) (hk : kt (.p r) tb) : callP P gf caps l tb kt := by
  cases hx : allP (l.map AV.nm) with
  | none => rw [hx] at hl; cases hl
  | some xs => rw [hx] at hl; injection hl with hl; subst hl; exact .inl ⟨xs, hx, r, h, hk⟩
theorem gcall_of0 {gf : FuncId} {ys l : List AV} {ts ts' : Tb} {r : AV} (h : GenC P gf ys ts r ts') (hl : toAll l ys) (hb : sub1 tb.bx ts.bx) (hr : sub1 tb.rw ts.rw) (hn : ts.nx = tb.nx) (hk : kt r (tb.merge ts ts')) : callP P gf [] l tb kt :=
  .inr <| .inl ⟨ys, ts, r, ts', hl, by simpa using h, hb, hr, hn, hk⟩
theorem bcall_of0 {gf : FuncId} {ys : List PC} {l : List AV} {r : PC} (h : PureC P gf ys r) (hl : all2 (borF tb.bx 4) l ys) (hr : r.flat = true) (hk : kt (.p r) tb) : callP P gf [] l tb kt :=
  .inr <| .inr <| .inl ⟨ys, r, hl, by simpa using h, hr, hk⟩
/-- a call of an entry that only computes -/
theorem ecall_of {gf : FuncId} {xs : List PC} {l : List AV} {r : PC} (h : ExtC P gf xs r) (hl : allP (l.map AV.nm) = some xs) (hk : kt (.p r) tb) : callP P gf [] l tb kt :=
  .inr <| .inr <| .inr ⟨rfl, .inr ⟨xs, r, hl, h, hk⟩⟩
end
end Go.Av
