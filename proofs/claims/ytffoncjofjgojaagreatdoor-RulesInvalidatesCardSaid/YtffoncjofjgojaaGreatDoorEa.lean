/- An abstract interpreter over the program's form, with the proof that it is sound: part Ea. Own work. It holds for any program that the model takes. -/
import Derived.WalkKit
import Derived.Still
import Derived.Deep.LoopGhost
import Derived.WalkLawsBesides
import Derived.Laws.IdiomStrings
set_option linter.all false
/-! part AvCore -/
namespace Go.Av
open Go.RowKit

/-- Memory that nobody writes any more: block, offset. -/
abbrev Mem := Nat → Nat → Option Value
def Mem.le (M N : Mem) : Prop := ∀ b o v, M b o = some v → N b o = some v
theorem Mem.le_refl (M : Mem) : M.le M := fun _ _ _ h => h
theorem Mem.le.trans {A B C : Mem} (h : A.le B) (k : B.le C) : A.le C := fun _ _ _ e => k _ _ _ (h _ _ _ e)

/-- A value without places: what lasting memory holds. -/
inductive PC where
  | sc (v : Value)
  | nil
  | agg (tup : Bool) (xs : List PC)
  | sl (xs : List PC)
  | ref (x : PC)
  | fn (f : Fn) (caps : List PC)
  deriving Inhabited

def At (M : Mem) (b off : Nat) (vs : List Value) : Prop := ∀ j v, vs[j]? = some v → M b (off + j) = some v

/-- The cells that values take, one behind the other. -/
def cellsOf (us : List Value) : List Value := us.flatMap fun u => u.cells.toList

mutual
inductive Rep (M : Mem) : Value → PC → Prop
  | sc (v : Value) (h : v.oneCell' = true) : Rep M v (.sc v)
  | nil : Rep M (.slice none 0 0) .nil
  | nilsl : Rep M (.slice none 0 0) (.sl [])
  | sl0 (a : Addr) : Rep M (.slice (some a) 0 0) (.sl [])
  | agg {vs : List Value} {xs : List PC} (h : Reps M vs xs) (h1 : ∀ v ∈ vs, v.oneCell' = true) : Rep M (.agg vs.toArray) (.agg false xs)
  | tup {vs : List Value} {xs : List PC} (h : Reps M vs xs) : Rep M (.tuple vs.toArray) (.agg true xs)
  | sl {b off n cap sz : Nat} {us : List Value} {xs : List PC} (hn : us.length = n) (hc : n ≤ cap) (hm : cap ≤ maxLen) (hsz : 0 < sz) (hu : ∀ u ∈ us, u.cells.size = sz)
      (h1 : ∀ v ∈ cellsOf us, v.oneCell' = true) (hat : At M b off (cellsOf us)) (h : Reps M us xs) : Rep M (.slice (some ⟨b, off, none⟩) n cap) (.sl xs)
  | ref {b off : Nat} {u : Value} {x : PC} (hat : At M b off u.cells.toList) (h : Rep M u x) : Rep M (.pointer (some ⟨b, off, none⟩)) (.ref x)
  | fn {f : Fn} {vs : List Value} {xs : List PC} (h : Reps M vs xs) : Rep M (.func f #[] vs.toArray) (.fn f xs)
inductive Reps (M : Mem) : List Value → List PC → Prop
  | nil : Reps M [] []
  | cons {v : Value} {x : PC} {vs : List Value} {xs : List PC} (h : Rep M v x) (hs : Reps M vs xs) : Reps M (v :: vs) (x :: xs)
end

theorem At.mono {M N : Mem} (h : M.le N) {b off : Nat} {vs : List Value} (k : At M b off vs) : At N b off vs := fun j v e => h _ _ _ (k j v e)

mutual
theorem Rep.mono {M N : Mem} (h : M.le N) {v : Value} {x : PC} (k : Rep M v x) : Rep N v x := by
  cases k with
  | sc v h1 => exact .sc v h1
  | nil => exact .nil
  | nilsl => exact .nilsl
  | sl0 a => exact .sl0 a
  | agg hs h1 => exact .agg (hs.mono h) h1
  | tup hs => exact .tup (hs.mono h)
  | sl hn hc hm hsz hu h1 hat hs => exact .sl hn hc hm hsz hu h1 (hat.mono h) (hs.mono h)
  | ref hat hs => exact .ref (hat.mono h) (hs.mono h)
  | fn hs => exact .fn (hs.mono h)
theorem Reps.mono {M N : Mem} (h : M.le N) {vs : List Value} {xs : List PC} (k : Reps M vs xs) : Reps N vs xs := by
  cases k with
  | nil => exact .nil
  | cons h1 hs => exact .cons (h1.mono h) (hs.mono h)
end

theorem Reps.length {M : Mem} : ∀ {vs : List Value} {xs : List PC}, Reps M vs xs → vs.length = xs.length
  | [], [], _ => rfl
  | _ :: _, _ :: _, .cons _ hs => by simp [hs.length]

theorem Reps.get {M : Mem} : ∀ {vs : List Value} {xs : List PC}, Reps M vs xs → ∀ {i : Nat} {x : PC}, xs[i]? = some x → ∃ v, vs[i]? = some v ∧ Rep M v x
  | _, _, .nil, _, _, h => by simp at h
  | _, _, .cons (v := v) h1 hs, 0, x, h => by simp at h; subst h; exact ⟨v, by simp, h1⟩
  | _, _, .cons h1 hs, i + 1, x, h => by simp at h; simpa using hs.get h

theorem Reps.append {M : Mem} : ∀ {vs ws : List Value} {xs ys : List PC}, Reps M vs xs → Reps M ws ys → Reps M (vs ++ ws) (xs ++ ys)
  | _, _, _, _, .nil, k => k
  | _, _, _, _, .cons h1 hs, k => .cons h1 (hs.append k)

theorem Reps.take {M : Mem} : ∀ {vs : List Value} {xs : List PC} (n : Nat), Reps M vs xs → Reps M (vs.take n) (xs.take n)
  | _, _, 0, _ => by simpa using Reps.nil
  | _, _, n + 1, .nil => by simpa using Reps.nil
  | _, _, n + 1, .cons h1 hs => by simpa using Reps.cons h1 (hs.take n)

theorem Reps.drop {M : Mem} : ∀ {vs : List Value} {xs : List PC} (n : Nat), Reps M vs xs → Reps M (vs.drop n) (xs.drop n)
  | _, _, 0, h => by simpa using h
  | _, _, n + 1, .nil => by simpa using Reps.nil
  | _, _, n + 1, .cons h1 hs => by simpa using hs.drop n

/-- A value of a call under way. 'obj': a place in an object of its own; 'own': a list that lasts, whose spare room is the call's own; 'full': a list that lasts, without spare room; 'nn': a list that lasts, not nil; 'view': n elements, of s cells each, from the o-th of a row of its own that is still written, of c elements, if that is known. -/
inductive AV where
  | p (x : PC)
  | obj (id off : Nat)
  | own (id : Nat) (xs : List PC)
  | full (xs : List PC)
  | nn (xs : List PC)
  | view (id o n s : Nat) (c : Option Nat)
  | agg (tup : Bool) (xs : List AV)
  | clo (f : Fn) (xs : List AV)
  | ifc (t : TypeId) (x : AV)
  | any
  deriving Inhabited

/-- The places of what a call under way has of its own, and what lasts. -/
structure G where
  M : Mem
  ob : Nat → Option (Nat × Nat)
  rv : Nat → Option Value

/-- where a row's o-th element lies; a row without room may lie anywhere, or nowhere. -/
inductive VAddr (a : Option Addr) (b c o s : Nat) : Prop
  | real (off : Nat) (h0 : 0 < c) (ha : a = some ⟨b, off, none⟩) (ho : o < c ∨ o = 0 → off = o * s)
  | void (h0 : c = 0) (ha : a = none ∨ ∃ a', a = some a')

mutual
inductive RepV (g : G) : Value → AV → Prop
  | p {v : Value} {x : PC} (h : Rep g.M v x) : RepV g v (.p x)
  | obj {id off b c : Nat} (h : g.ob id = some (b, c)) : RepV g (.pointer (some ⟨b, off, none⟩)) (.obj id off)
  | own {id : Nat} {v : Value} {xs : List PC} (h : g.rv id = some v) (hr : Rep g.M v (.sl xs)) : RepV g v (.own id xs)
  | full {a : Option Addr} {n : Nat} {xs : List PC} (hr : Rep g.M (.slice a n n) (.sl xs)) : RepV g (.slice a n n) (.full xs)
  | nn {a : Addr} {n c : Nat} {xs : List PC} (hr : Rep g.M (.slice (some a) n c) (.sl xs)) : RepV g (.slice (some a) n c) (.nn xs)
  | view {id b c o n s : Nat} {a : Option Addr} {m : Option Nat} (h : g.ob id = some (b, c)) (hn : o + n ≤ c) (hc : c ≤ maxLen) (ha : VAddr a b c o s) (hm : ∀ k, m = some k → c = k) : RepV g (.slice a n (c - o)) (.view id o n s m)
  | agg {vs : List Value} {xs : List AV} (h : RepVs g vs xs) (h1 : ∀ v ∈ vs, v.oneCell' = true) : RepV g (.agg vs.toArray) (.agg false xs)
  | tup {vs : List Value} {xs : List AV} (h : RepVs g vs xs) : RepV g (.tuple vs.toArray) (.agg true xs)
  | clo {f : Fn} {vs : List Value} {xs : List AV} (h : RepVs g vs xs) : RepV g (.func f #[] vs.toArray) (.clo f xs)
  | ifc {t : TypeId} {v : Value} {x : AV} (h : RepV g v x) : RepV g (.iface t v) (.ifc t x)
  | any (v : Value) : RepV g v .any
inductive RepVs (g : G) : List Value → List AV → Prop
  | nil : RepVs g [] []
  | cons {v : Value} {x : AV} {vs : List Value} {xs : List AV} (h : RepV g v x) (hs : RepVs g vs xs) : RepVs g (v :: vs) (x :: xs)
end

/-- more lasts, more has its place -/
structure G.le (g g' : G) : Prop where
  M : g.M.le g'.M
  ob : ∀ i p, g.ob i = some p → g'.ob i = some p
  rv : ∀ i v, g.rv i = some v → g'.rv i = some v

theorem G.le_refl (g : G) : g.le g := ⟨Mem.le_refl _, fun _ _ h => h, fun _ _ h => h⟩
theorem G.le.trans {a b c : G} (h : a.le b) (k : b.le c) : a.le c := ⟨h.M.trans k.M, fun _ _ e => k.ob _ _ (h.ob _ _ e), fun _ _ e => k.rv _ _ (h.rv _ _ e)⟩

mutual
theorem RepV.mono {g g' : G} (h : g.le g') {v : Value} {x : AV} (k : RepV g v x) : RepV g' v x := by
  cases k with
  | p h1 => exact .p (h1.mono h.M)
  | obj e => exact .obj (h.ob _ _ e)
  | own e hr => exact .own (h.rv _ _ e) (hr.mono h.M)
  | full hr => exact .full (hr.mono h.M)
  | nn hr => exact .nn (hr.mono h.M)
  | view e h1 h2 h3 h4 => exact .view (h.ob _ _ e) h1 h2 h3 h4
  | agg hs h1 => exact .agg (hs.mono h) h1
  | tup hs => exact .tup (hs.mono h)
  | clo hs => exact .clo (hs.mono h)
  | ifc hs => exact .ifc (hs.mono h)
  | any v => exact .any v
theorem RepVs.mono {g g' : G} (h : g.le g') {vs : List Value} {xs : List AV} (k : RepVs g vs xs) : RepVs g' vs xs := by
  cases k with
  | nil => exact .nil
  | cons h1 hs => exact .cons (h1.mono h) (hs.mono h)
end

theorem RepVs.length {g : G} : ∀ {vs : List Value} {xs : List AV}, RepVs g vs xs → vs.length = xs.length
  | [], [], _ => rfl
  | _ :: _, _ :: _, .cons _ hs => by simp [hs.length]

theorem RepVs.get {g : G} : ∀ {vs : List Value} {xs : List AV}, RepVs g vs xs → ∀ {i : Nat} {x : AV}, xs[i]? = some x → ∃ v, vs[i]? = some v ∧ RepV g v x
  | _, _, .nil, _, _, h => by simp at h
  | _, _, .cons (v := v) h1 hs, 0, x, h => by simp at h; subst h; exact ⟨v, by simp, h1⟩
  | _, _, .cons h1 hs, i + 1, x, h => by simp at h; simpa using hs.get h

/-- An object of the call's own: its cells that are known, the first ones. -/
structure Ob where
  el : TypeId
  sz : Nat
  xs : List AV

structure Tb where
  bx : List (Nat × Ob)
  rw : List (Nat × TypeId × Nat)
  nx : Nat

structure AS where
  sl : Nat → AV
  tb : Tb

def lk {α : Type} (t : Nat) : List (Nat × α) → Option α
  | [] => none
  | (k, v) :: l => if t = k then some v else lk t l

def del {α : Type} (t : Nat) : List (Nat × α) → List (Nat × α)
  | [] => []
  | (k, v) :: l => if t = k then del t l else (k, v) :: del t l

theorem lk_del {α : Type} (t u : Nat) : ∀ (l : List (Nat × α)), lk u (del t l) = if u = t then none else lk u l
  | [] => by simp [lk, del]
  | (k, v) :: l => by
    simp only [del]
    split
    · rename_i e; subst e
      rw [lk_del t u l]; simp only [lk]
      split <;> rfl
    · rename_i e
      simp only [lk]
      rw [lk_del t u l]
      by_cases hu : u = k
      · subst hu; rw [if_pos rfl, if_neg (fun h => e h.symm), if_pos rfl]
      · rw [if_neg hu]; by_cases ht : u = t
        · rw [if_pos ht, if_pos ht]
        · rw [if_neg ht, if_neg ht, if_neg hu]

def upd (f : Nat → AV) (d : Nat) (x : AV) : Nat → AV := fun t => if t = d then x else f t
theorem upd_comm (f : Nat → AV) {d e : Nat} (x y : AV) (h : d ≠ e) : upd (upd f d x) e y = upd (upd f e y) d x := by
  funext t; simp only [upd]; split <;> split <;> simp_all

def putS (sl : Nat → AV) (dst : Option Tmp) (x : AV) : Nat → AV :=
  match dst with
  | some d => upd sl d x
  | none => sl
def AS.put (st : AS) (dst : Option Tmp) (x : AV) : AS := ⟨putS st.sl dst x, st.tb⟩

/-- what a const stands for -/
def c1 : Value → PC
  | .slice none 0 0 => .nil
  | v => .sc v
def evC : Value → AV
  | .agg cs => if cs.toList.all (·.oneCell') then .p (.agg false (cs.toList.map c1)) else .any
  | .tuple _ => .any
  | v => .p (c1 v)

def evS (sl : Nat → AV) : Operand → AV
  | .tmp t => sl t
  | .const v => evC v
  | .func f => .p (.fn (.func f) [])
  | .global _ => .any

theorem rep_c1 (M : Mem) (v : Value) (h : v.oneCell' = true) : Rep M v (c1 v) := by
  unfold c1; split
  · exact .nil
  · exact .sc _ h

theorem reps_c1 (M : Mem) : ∀ (vs : List Value), (∀ v ∈ vs, v.oneCell' = true) → Reps M vs (vs.map c1)
  | [], _ => .nil
  | v :: vs, h => .cons (rep_c1 M v (h v (by simp))) (reps_c1 M vs fun u hu => h u (by simp [hu]))

theorem repV_evC (g : G) (v : Value) : RepV g v (evC v) := by
  unfold evC
  split
  · rename_i cs
    split
    · rename_i h
      have h' : ∀ v ∈ cs.toList, v.oneCell' = true := List.all_eq_true.1 h
      have := Rep.agg (reps_c1 g.M cs.toList h') h'
      exact .p (by simpa using this)
    · exact .any _
  · exact .any _
  · rename_i h1 h2
    exact .p (rep_c1 _ _ (by cases v <;> simp_all [Value.oneCell']))

/-- The world holds what lasts. -/
def GOk (M : Mem) : Prop := ∃ m : Int, M 0 0 = some (.int .i64 m)
structure Holds (w : World) (M : Mem) : Prop where
  app : ∀ b o v, M b o = some v → w.cell? ⟨b, o, none⟩ = some v
  g : GOk M
instance {w : World} {M : Mem} : CoeFun (Holds w M) (fun _ => ∀ b o v, M b o = some v → w.cell? ⟨b, o, none⟩ = some v) := ⟨Holds.app⟩
theorem GOk.mono {M N : Mem} (h : GOk M) (hM : M.le N) : GOk N := by obtain ⟨m, e⟩ := h; exact ⟨m, hM _ _ _ e⟩

theorem Holds.lt {w : World} {M : Mem} (h : Holds w M) {b o : Nat} {v : Value} (e : M b o = some v) : b < w.heap.size :=
  World.block_lt_of_cell? w ⟨b, o, none⟩ (h b o v e)

/-- Of what was there, all but the blocks F is as it was. -/
structure Keep (F : Nat → Prop) (w w' : World) : Prop where
  os : w'.os = w.os
  tape : w'.tape = w.tape
  output : w'.output = w.output
  size : w.heap.size ≤ w'.heap.size
  block : ∀ k, k < w.heap.size → ¬ F k → w'.heap[k]? = w.heap[k]?

theorem Keep.refl (F : Nat → Prop) (w : World) : Keep F w w := ⟨rfl, rfl, rfl, Nat.le_refl _, fun _ _ _ => rfl⟩
theorem Keep.of_below {F : Nat → Prop} {w w' : World} (h : Below w.heap.size w w') : Keep F w w' := ⟨h.os, h.tape, h.output, h.size, fun k hk _ => h.block k hk⟩
/-- then only blocks that are new, or among F -/
theorem Keep.trans {F F' : Nat → Prop} {a b c : World} (h : Keep F a b) (k : Keep F' b c) (hF : ∀ n, n < a.heap.size → F' n → F n) : Keep F a c :=
  ⟨k.os.trans h.os, k.tape.trans h.tape, k.output.trans h.output, Nat.le_trans h.size k.size, fun i hi hn =>
    (k.block i (Nat.lt_of_lt_of_le hi h.size) fun hf => hn (hF i hi hf)).trans (h.block i hi hn)⟩

def rowBlock : Value → Option Nat
  | .slice (some a) n c => if n < c then some a.block else none
  | _ => none

/-- a row's type and mark: none; or, where the table's type bears the sign frM, a mark that lies behind the row -/
def frM : Nat := 1000000
def ObT (el t n : Nat) (fz : Nat × Nat) : Prop := (t = el ∧ fz = (0, 0)) ∨ (el = t + frM ∧ n ≤ fz.1)
theorem ObT.low {el t n : Nat} {fz : Nat × Nat} (h : ObT el t n fz) (hl : el < frM) : t = el ∧ fz = (0, 0) := by
  rcases h with h | ⟨h, _⟩
  · exact h
  · omega
theorem ObT.fz {el t n : Nat} {fz : Nat × Nat} (h : ObT el t n fz) : fz = (0, 0) ∨ n ≤ fz.1 := h.imp (·.2) (·.2)

/-- An object of the call's own. -/
def ObOk (B : Nat) (F : Nat → Prop) (g : G) (w : World) (id : Nat) (o : Ob) : Prop :=
  ∃ b c, g.ob id = some (b, c) ∧ (0 < c → ∃ cur, (B ≤ b ∨ F b) ∧ (∀ off, g.M b off = none) ∧ (∃ t fz, w.heap[b]? = some (.cells cur t fz) ∧ ObT o.el t cur.size fz) ∧ cur.size = c * o.sz ∧ c ≤ maxLen ∧
    o.xs.length ≤ cur.size ∧ RepVs g (cur.toList.take o.xs.length) o.xs ∧ ∀ v ∈ cur.toList, v.oneCell' = true) ∧ (c = 0 → o.xs = [])

theorem ObOk.real {B : Nat} {F : Nat → Prop} {g : G} {w : World} {id : Nat} {o : Ob} (h : ObOk B F g w id o) {b c : Nat} (he : g.ob id = some (b, c)) (hc : 0 < c) :
    ∃ cur, (B ≤ b ∨ F b) ∧ (∀ off, g.M b off = none) ∧ (∃ t fz, w.heap[b]? = some (.cells cur t fz) ∧ ObT o.el t cur.size fz) ∧ cur.size = c * o.sz ∧ c ≤ maxLen ∧
    o.xs.length ≤ cur.size ∧ RepVs g (cur.toList.take o.xs.length) o.xs ∧ ∀ v ∈ cur.toList, v.oneCell' = true := by
  obtain ⟨b', c', h1, h2, _⟩ := h
  rw [h1] at he; injection he with he; injection he with e1 e2; subst e1; subst e2
  exact h2 hc
/-- something known lies somewhere -/
theorem ObOk.pos {B : Nat} {F : Nat → Prop} {g : G} {w : World} {id : Nat} {o : Ob} (h : ObOk B F g w id o) {b c : Nat} (he : g.ob id = some (b, c)) (hx : o.xs ≠ []) : 0 < c := by
  obtain ⟨b', c', h1, _, h2⟩ := h
  rw [h1] at he; injection he with he; injection he with e1 e2; subst e1; subst e2
  exact Nat.pos_of_ne_zero fun h0 => hx (h2 h0)

/-- A list whose spare room is the call's own. -/
def RwOk (B : Nat) (F : Nat → Prop) (g : G) (w : World) (id : Nat) (el : TypeId) (sz : Nat) : Prop :=
  ∃ v, g.rv id = some v ∧ ((∃ a n, v = .slice a n n) ∨
    ∃ b n cap cur, v = .slice (some ⟨b, 0, none⟩) n cap ∧ (B ≤ b ∨ F b) ∧ (∃ t fz, w.heap[b]? = some (.cells cur t fz) ∧ ObT el t cur.size fz) ∧ cur.size = cap * sz ∧ n < cap ∧ cap ≤ maxLen ∧ 0 < sz ∧
      At g.M b 0 (cur.toList.take (n * sz)) ∧ ∀ o v, g.M b o = some v → o < n * sz)

structure SatW (w0 : World) (M0 : Mem) (F : Nat → Prop) (tb : Tb) (g : G) (w : World) : Prop where
  holds : Holds w g.M
  keep : Keep F w0 w
  old : ∀ b, b < w0.heap.size → ¬ F b → g.M b = M0 b
  mle : M0.le g.M
  boxes : ∀ id o, lk id tb.bx = some o → ObOk w0.heap.size F g w id o
  rows : ∀ id el sz, lk id tb.rw = some (el, sz) → RwOk w0.heap.size F g w id el sz
  ob_ne : ∀ i j o p b c b' c', lk i tb.bx = some o → lk j tb.bx = some p → i ≠ j → g.ob i = some (b, c) → g.ob j = some (b', c') → 0 < c → 0 < c' → b ≠ b'
  rw_ne : ∀ i j r s u v b, lk i tb.rw = some r → lk j tb.rw = some s → i ≠ j → g.rv i = some u → g.rv j = some v → rowBlock u = some b → rowBlock v ≠ some b
  ob_rw : ∀ i j o r b c v, lk i tb.bx = some o → lk j tb.rw = some r → g.ob i = some (b, c) → g.rv j = some v → 0 < c → rowBlock v ≠ some b
  fresh : ∀ i, tb.nx ≤ i → g.ob i = none ∧ g.rv i = none

def SatS (sl : Nat → AV) (g : G) (a : Act) : Prop := ∀ t, RepV g (a.tmps.getD t undef) (sl t)

/-- The places are the same, more lasts. -/
def G.with (g : G) (M : Mem) : G := { g with M }
theorem G.le_with {g : G} {N : Mem} (h : g.M.le N) : g.le (g.with N) := ⟨h, fun _ _ h => h, fun _ _ h => h⟩

theorem repV_ev {sl : Nat → AV} {g : G} {a : Act} (x : Operand) (h : ∀ t, x = .tmp t → RepV g (a.tmps.getD t undef) (sl t)) : RepV g (a.eval x) (evS sl x) := by
  cases x with
  | tmp t => exact h t rfl
  | const v => exact repV_evC g v
  | func f => exact .p (.fn (vs := []) .nil)
  | global n => exact .any _

theorem heap_lt {w : World} {b : Nat} {o : Obj} (h : w.heap[b]? = some o) : b < w.heap.size := (Array.getElem?_eq_some_iff.1 h).1

theorem SatW.drew {w0 : World} {M0 : Mem} {F : Nat → Prop} {tb : Tb} {g : G} {w : World} (h : SatW w0 M0 F tb g w) : SatW w0 M0 F tb g w.drew :=
  ⟨⟨h.holds.app, h.holds.g⟩, ⟨h.keep.os, h.keep.tape, h.keep.output, h.keep.size, h.keep.block⟩, h.old, h.mle, h.boxes, h.rows, h.ob_ne, h.rw_ne, h.ob_rw, h.fresh⟩

/-- After a call or a new block: what was there is as it was, more lasts. -/
theorem SatW.later {w0 : World} {M0 : Mem} {F : Nat → Prop} {tb : Tb} {g : G} {w w' : World} {N : Mem} (h : SatW w0 M0 F tb g w) (hM : g.M.le N) (hH : Holds w' N)
    (hO : ∀ b, b < w.heap.size → N b = g.M b) (hB : Below w.heap.size w w') : SatW w0 M0 F tb (g.with N) w' := by
  refine ⟨hH, h.keep.trans (F' := fun _ => False) (Keep.of_below hB) (fun _ _ hf => hf.elim), fun b hb hf => ?_, h.mle.trans hM, fun id o e => ?_, fun id el sz e => ?_, h.ob_ne, h.rw_ne, h.ob_rw, h.fresh⟩
  · exact (hO b (Nat.lt_of_lt_of_le hb h.keep.size)).trans (h.old b hb hf)
  · obtain ⟨b, c, h1, hr, h0⟩ := h.boxes id o e
    refine ⟨b, c, h1, fun hc => ?_, h0⟩
    obtain ⟨cur, h2, h3, ⟨tt, fz, h4, fo⟩, h5, h6, h7, h8, h9⟩ := hr hc
    have hb := heap_lt h4
    exact ⟨cur, h2, fun o => by show N b o = none; rw [hO _ hb]; exact h3 o, ⟨tt, fz, (hB.block _ hb).trans h4, fo⟩, h5, h6, h7, h8.mono (G.le_with hM), h9⟩
  · obtain ⟨v, h1, h2⟩ := h.rows id el sz e
    refine ⟨v, h1, h2.imp (fun h => h) ?_⟩
    rintro ⟨b, n, cap, cur, h3, h4, ⟨tt, fz, h5, fo⟩, h6, h7, h8, h9, h10, h11⟩
    have hb := heap_lt h5
    exact ⟨b, n, cap, cur, h3, h4, ⟨tt, fz, (hB.block _ hb).trans h5, fo⟩, h6, h7, h8, h9, h10.mono hM, fun o v e => by have e' : N b o = some v := e; rw [hO _ hb] at e'; exact h11 o v e'⟩

end Go.Av

/-! part AvOps -/
namespace Go.Av
open Go.RowKit

/-- as a value that lasts, where it is one -/
def AV.pc : AV → Option PC
  | .p x => some x
  | .own _ xs => some (.sl xs)
  | .full xs => some (.sl xs)
  | .nn xs => some (.sl xs)
  | .agg t xs => match pcs xs with
    | some ys => some (.agg t ys)
    | none => none
  | _ => none
where pcs : List AV → Option (List PC)
  | [] => some []
  | x :: l => match x.pc, pcs l with
    | some y, some ys => some (y :: ys)
    | _, _ => none
def AV.nm (x : AV) : AV := match x.pc with
  | some y => .p y
  | none => x


mutual
theorem repV_pc {g : G} {v : Value} {x : AV} (h : RepV g v x) (y : PC) (e : x.pc = some y) : Rep g.M v y := by
  cases h with
  | p h1 => simp only [AV.pc, Option.some.injEq] at e; subst e; exact h1
  | obj _ => simp [AV.pc] at e
  | own _ hr => simp only [AV.pc, Option.some.injEq] at e; subst e; exact hr
  | full hr => simp only [AV.pc, Option.some.injEq] at e; subst e; exact hr
  | nn hr => simp only [AV.pc, Option.some.injEq] at e; subst e; exact hr
  | view _ _ _ _ _ => simp [AV.pc] at e
  | clo _ => simp [AV.pc] at e
  | ifc _ => simp [AV.pc] at e
  | agg hs h1 =>
    simp only [AV.pc] at e
    split at e
    · rename_i ys he; injection e with e; subst e; exact .agg (repVs_pc hs ys he) h1
    · cases e
  | tup hs =>
    simp only [AV.pc] at e
    split at e
    · rename_i ys he; injection e with e; subst e; exact .tup (repVs_pc hs ys he)
    · cases e
  | any _ => simp [AV.pc] at e
theorem repVs_pc {g : G} {vs : List Value} {xs : List AV} (h : RepVs g vs xs) (ys : List PC) (e : AV.pc.pcs xs = some ys) : Reps g.M vs ys := by
  cases h with
  | nil => simp only [AV.pc.pcs, Option.some.injEq] at e; subst e; exact .nil
  | cons h1 hs =>
    simp only [AV.pc.pcs] at e
    split at e
    · rename_i y ys' e1 e2; injection e with e; subst e; exact .cons (repV_pc h1 y e1) (repVs_pc hs ys' e2)
    · cases e
end

theorem repV_nm {g : G} {v : Value} {x : AV} (h : RepV g v x) : RepV g v x.nm := by
  unfold AV.nm
  split
  · rename_i y e; exact .p (repV_pc h y e)
  · exact h

section
variable (P : Program) (sl : Nat → AV) (o : Oper)

/-- In the abstract frame the operation answers x: whatever the places are, whatever the call has of its own, and however much lasts. -/
def AYld (x : AV) : Prop :=
  ∀ (w0 : World) (M0 : Mem) (F : Nat → Prop) (tb : Tb) (g : G) (a : Act) (w : World), SatW w0 M0 F tb g w → (∀ t, Operand.tmp t ∈ o.op.operands → RepV g (a.tmps.getD t undef) (sl t)) →
    ∀ (K : Act → World → Prop) (Q : Exit → Act → World → Prop),
      (∀ v w' N, g.M.le N → SatW w0 M0 F tb (g.with N) w' → RepV (g.with N) v x → K (a.put o.dst v) w') → o.wp P a w K Q
end

section
variable {P : Program} {sl : Nat → AV} {o : Oper}

theorem yld_raw {x : AV}
    (h : ∀ (w0 : World) (M0 : Mem) (F : Nat → Prop) (tb : Tb) (g : G) (a : Act) (w : World), SatW w0 M0 F tb g w → (∀ y, y ∈ o.op.operands → RepV g (a.eval y) (evS sl y)) →
      ∃ v, (execOp a.eval o).run P w = .ok (.value v) w ∧ RepV g v x) : AYld P sl o x := by
  intro w0 M0 F tb g a w hw ho K Q hK
  obtain ⟨v, hr, hv⟩ := h w0 M0 F tb g a w hw (fun y hy => repV_ev y fun t e => ho t (e ▸ hy))
  unfold Oper.wp
  rw [hr]
  exact hK v w g.M (Mem.le_refl _) hw hv

theorem yld_value {x : AV}
    (h : ∀ (w0 : World) (M0 : Mem) (F : Nat → Prop) (tb : Tb) (g : G) (a : Act) (w : World), SatW w0 M0 F tb g w → (∀ y, y ∈ o.op.operands → RepV g (a.eval y) (evS sl y).nm) →
      ∃ v, (execOp a.eval o).run P w = .ok (.value v) w ∧ RepV g v x) : AYld P sl o x := by
  intro w0 M0 F tb g a w hw ho K Q hK
  obtain ⟨v, hr, hv⟩ := h w0 M0 F tb g a w hw (fun y hy => repV_nm (repV_ev y fun t e => ho t (e ▸ hy)))
  unfold Oper.wp
  rw [hr]
  exact hK v w g.M (Mem.le_refl _) hw hv

theorem yld_new {x : AV}
    (h : ∀ (w0 : World) (M0 : Mem) (F : Nat → Prop) (tb : Tb) (g : G) (a : Act) (w : World), SatW w0 M0 F tb g w → (∀ y, y ∈ o.op.operands → RepV g (a.eval y) (evS sl y).nm) →
      ∃ v w' N, (execOp a.eval o).run P w = .ok (.value v) w' ∧ g.M.le N ∧ Holds w' N ∧ (∀ b, b < w.heap.size → N b = g.M b) ∧ Below w.heap.size w w' ∧ RepV (g.with N) v x) :
    AYld P sl o x := by
  intro w0 M0 F tb g a w hw ho K Q hK
  obtain ⟨v, w', N, hr, h1, h2, h3, h4, hv⟩ := h w0 M0 F tb g a w hw (fun y hy => repV_nm (repV_ev y fun t e => ho t (e ▸ hy)))
  unfold Oper.wp
  rw [hr]
  exact hK v w' N h1 (hw.later h1 h2 h3 h4) hv
end

/-! ### calls -/

def CanCall (P : Program) (f : FuncId) : Prop := ∃ fn, P.funcs[f]? = some fn ∧ (fn.name == "runtime.NumGoroutine") = false ∧ fn.body.isNone = false

/-- What a call leaves: the answer, in memory that lasts; what was there is as it was. -/
def After (M : Mem) (w : World) (r : PC) (e : Ending) (w' : World) : Prop :=
  ∃ v N, e = .returned v ∧ Rep N v r ∧ Holds w' N ∧ M.le N ∧ (∀ b, b < w.heap.size → N b = M b) ∧ Below w.heap.size w w'

/-- A function that only computes: its answer, of arguments that last. -/
def PureC (P : Program) (f : FuncId) (xs : List PC) (r : PC) : Prop :=
  CanCall P f ∧ ∀ (M : Mem) (w : World) (vs : List Value), Holds w M → Reps M vs xs → Calls P f vs.toArray w (After M w r)

/-! ### values -/

def bs (s : ByteArray) : List UInt8 := s.data.toList
abbrev strV (l : List UInt8) : Value := .string ⟨l.toArray⟩
abbrev PC.str (l : List UInt8) : PC := .sc (strV l)
abbrev PC.int (n : Int) : PC := .sc (.int .i64 n)
abbrev PC.bool (b : Bool) : PC := .sc (.bool b)
abbrev PC.st (xs : List PC) : PC := .agg false xs
abbrev PC.tp (xs : List PC) : PC := .agg true xs

theorem toList_bs (s : ByteArray) : s.toList = bs s := by
  exact ByteArray.toList_eq s

/-- how many cells -/
def PC.width : PC → Nat
  | .agg false xs => xs.length
  | _ => 1

def PC.plain : PC → Bool
  | .agg _ _ => false
  | _ => true

theorem rep_width {M : Mem} {v : Value} {x : PC} (h : Rep M v x) : v.cells.size = x.width := by
  cases h with
  | sc v h => cases v <;> simp_all [Value.cells, PC.width, Value.oneCell']
  | agg hs h1 => simp [Value.cells, PC.width, hs.length]
  | _ => simp [Value.cells, PC.width]

theorem rep_plain {M : Mem} {v : Value} {x : PC} (h : Rep M v x) (hp : x.plain = true) : v.cells = #[v] ∧ v.oneCell' = true := by
  cases h with
  | sc v h => cases v <;> simp_all [Value.cells, Value.oneCell']
  | agg hs h1 => simp [PC.plain] at hp
  | tup hs => simp [PC.plain] at hp
  | _ => simp [Value.cells, Value.oneCell']

/-! ### what one operation answers -/

def tyAgg (P : Program) (t : TypeId) : Option Bool :=
  match P.underlying t with
  | some (.struct _) | some (.array _ _) => some true
  | some _ => some false
  | none => none
def tySize (P : Program) (t : TypeId) : Option Nat := (P.info? t).map (·.size)
/-- a field: its offset, its size, is it a struct or an array? -/
def fld (P : Program) (t : TypeId) (i : Nat) : Option (Nat × Nat × Bool) :=
  match P.underlying t with
  | some (.struct fs) => match fs[i]? with
    | some f => match tySize P f.type, tyAgg P f.type with
      | some s, some a => some (f.offset, s, a)
      | _, _ => none
    | none => none
  | _ => none
/-- a slice type's element: its size -/
def elSize (P : Program) (t : TypeId) : Option Nat :=
  match P.underlying t with
  | some (.slice e) => tySize P e
  | _ => none
/-- an array type: its length, its element's size, is it made of several -/
def arrEl (P : Program) (t : TypeId) : Option (Nat × Nat × Bool) :=
  match P.underlying t with
  | some (.array m e) => match tySize P e, tyAgg P e with
    | some s, some a => some (m, s, a)
    | _, _ => none
  | _ => none
def isStr (P : Program) (t : TypeId) : Bool := match P.underlying t with | some .string => true | _ => false
def isBool (P : Program) (t : TypeId) : Bool := match P.underlying t with | some .bool => true | _ => false
def isSome (P : Program) (t : TypeId) : Bool := (P.underlying t).isSome
def intOf (P : Program) (t : TypeId) : Option IntKind := match P.underlying t with | some (.int k) => some k | _ => none
def isBytes (P : Program) (t : TypeId) : Bool := match P.underlying t with | some (.slice e) => (match P.underlying e with | some (.int .u8) => true | _ => false) | _ => false
def isIface (P : Program) (t : TypeId) : Bool := match P.underlying t with | some (.interface _) => true | _ => false

def fits (P : Program) (t : TypeId) : PC → Bool
  | .agg false xs => tyAgg P t == some true && tySize P t == some xs.length
  | .agg true _ => false
  | _ => tyAgg P t == some false

def part (off size : Nat) (a : Bool) (xs : List PC) : Option PC :=
  if a then (if off + size ≤ xs.length then some (.agg false ((xs.drop off).take size)) else none) else if size = 1 then xs[off]? else none

def binW (P : Program) (op : BinOp) (t : TypeId) (k : Value → Prop) : Value → Value → Prop
  | .int c x, .int d y =>
    match op with
    | .shl => 0 ≤ y ∧ k (.int c (c.wrap (x * 2 ^ min y.toNat c.bits)))
    | .shr => 0 ≤ y ∧ k (.int c (x.fdiv (2 ^ min y.toNat c.bits)))
    | _ => c = d ∧ (match op with
      | .add => k (.int c (c.wrap (x + y)))
      | .sub => k (.int c (c.wrap (x - y)))
      | .mul => k (.int c (c.wrap (x * y)))
      | .quo => y ≠ 0 ∧ k (.int c (c.wrap (x.tdiv y)))
      | .rem => y ≠ 0 ∧ k (.int c (x.tmod y))
      | .and => k (.int c (bits .and c x y))
      | .or => k (.int c (bits .or c x y))
      | .xor => k (.int c (bits .xor c x y))
      | .andNot => k (.int c (bits .andNot c x y))
      | .eql => k (.bool (x == y))
      | .neq => k (.bool (x != y))
      | .lss => k (.bool (decide (x < y)))
      | .leq => k (.bool (decide (x ≤ y)))
      | .gtr => k (.bool (decide (y < x)))
      | .geq => k (.bool (decide (y ≤ x)))
      | _ => False)
  | .string x, .string y =>
    match op with
    | .add => (bs x).length + (bs y).length ≤ 9223372036854775807 ∧ k (strV (bs x ++ bs y))
    | .eql => k (.bool (bs x == bs y))
    | .neq => k (.bool (bs x != bs y))
    | .lss => k (.bool (Op.bytesLess (bs x) (bs y)))
    | .leq => k (.bool (Op.bytesLess (bs x) (bs y) || bs x == bs y))
    | .gtr => k (.bool !(Op.bytesLess (bs x) (bs y) || bs x == bs y))
    | .geq => k (.bool !(Op.bytesLess (bs x) (bs y)))
    | _ => False
  | .bool x, .bool y =>
    isBool P t = true ∧ match op with
    | .eql => k (.bool (x == y))
    | .neq => k (.bool (x != y))
    | _ => False
  | _, _ => False

def bytesPC (l : List UInt8) : List PC := l.map fun b => .sc (.int .u8 b.toNat)

/-- arguments that last -/
def allP : List AV → Option (List PC)
  | [] => some []
  | .p x :: l => match allP l with | some r => some (x :: r) | none => none
  | _ :: _ => none

/-- nil, where a list is wanted -/
def PC.wk1 : PC → PC
  | .nil => .sl []
  | x => x
def PC.wk : PC → PC
  | .nil => .sl []
  | .agg b xs => .agg b (xs.map PC.wk1)
  | x => x

def lenW (P : Program) (t : TypeId) (k : AV → Prop) : AV → Prop
  | .p (.sc (.string s)) => isStr P t = true ∧ k (.p (.int (bs s).length))
  | .p .nil => (elSize P t).isSome = true ∧ k (.p (.int 0))
  | .p (.sl xs) => (elSize P t).isSome = true ∧ k (.p (.int xs.length))
  | _ => False

/-- a bound of a slice expression: its number, and that it is none below 0 -/
def bndN (d : Nat) : Option AV → Option Nat
  | none => some d
  | some (.p (.sc (.int _ i))) => some i.toNat
  | _ => none
def bndC : Option AV → Prop
  | some (.p (.sc (.int _ i))) => 0 ≤ i
  | _ => True
def bndW (n : Nat) (lo hi : Option AV) (k : Nat → Nat → Prop) : Prop :=
  match bndN 0 lo, bndN n hi with
  | some l, some h => bndC lo ∧ bndC hi ∧ l ≤ h ∧ h ≤ n ∧ k l h
  | _, _ => False

/-- a call of a function that only computes -/
def callW (P : Program) (g : FuncId) (xs : List PC) (k : AV → Prop) : Prop := ∃ r, PureC P g xs r ∧ k (.p r)

def pickW (k : AV → Prop) (x y : AV) : AV → Prop
  | .p (.sc (.bool t)) => k (if t = true then x else y)
  | _ => False
def boxW (k : AV → Prop) : AV → Prop
  | .p y => k (.p (.ref y))
  | _ => False
def loadW (P : Program) (t : TypeId) (k : AV → Prop) : AV → Prop
  | .p (.ref y) => fits P t y = true ∧ k (.p y)
  | _ => False
def fieldAddrW (P : Program) (t : TypeId) (i : Nat) (k : AV → Prop) : AV → Prop
  | .p (.ref (.agg false xs)) => match fld P t i with
    | some (off, s, a) => match part off s a xs with
      | some y => s ≠ 0 ∧ k (.p (.ref y))
      | none => False
    | none => False
  | _ => False
def fieldW (P : Program) (t : TypeId) (i : Nat) (k : AV → Prop) : AV → Prop
  | .p (.agg false xs) => match fld P t i with
    | some (off, s, a) => match part off s a xs with
      | some y => k (.p y)
      | none => False
    | none => False
  | _ => False
def indexAddrW (P : Program) (t : TypeId) (k : AV → Prop) : AV → AV → Prop
  | .p (.sl xs), .p (.sc (.int _ n)) => 0 ≤ n ∧ match xs[n.toNat]? with
    | some y => elSize P t = some y.width ∧ k (.p (.ref y))
    | none => False
  | .p (.ref (.agg false xs)), .p (.sc (.int _ n)) => match arrEl P t with
    | some (m, s, a) => 0 ≤ n ∧ n < (m : Int) ∧ (match part (n.toNat * s) s a xs with
      | some y => k (.p (.ref y))
      | none => False)
    | none => False
  | _, _ => False
def indexW (P : Program) (t : TypeId) (k : AV → Prop) : AV → AV → Prop
  | .p (.sc (.string s)), .p (.sc (.int _ n)) => 0 ≤ n ∧ isStr P t = true ∧ match (bs s)[n.toNat]? with
    | some c => k (.p (.sc (.int .u8 c.toNat)))
    | none => False
  | .p (.agg false xs), .p (.sc (.int _ n)) => match arrEl P t with
    | some (m, s, a) => 0 ≤ n ∧ n < (m : Int) ∧ (match part (n.toNat * s) s a xs with
      | some y => k (.p y)
      | none => False)
    | none => False
  | _, _ => False
def sliceW (P : Program) (t : TypeId) (lo hi : Option AV) (k : AV → Prop) : AV → Prop
  | .p (.sc (.string s)) => isStr P t = true ∧ bndW (bs s).length lo hi fun l h => k (.p (.str (((bs s).take h).drop l)))
  | .p (.sl xs) => (elSize P t).isSome = true ∧ (∀ y ∈ xs, elSize P t = some y.width) ∧ bndW xs.length lo hi fun l h => k (.p (.sl ((xs.take h).drop l)))
  | _ => False
def binopW (P : Program) (op : BinOp) (t : TypeId) (k : AV → Prop) : AV → AV → Prop
  | .p (.sc a), .p (.sc b) => binW P op t (fun v => k (.p (.sc v))) a b
  | _, _ => False
def unopW (op : UnOp) (k : AV → Prop) : AV → Prop
  | .p (.sc (.bool b)) => op = .not ∧ k (.p (.bool !b))
  | .p (.sc (.int c n)) => op = .neg ∧ k (.p (.sc (.int c (c.wrap (0 - n)))))
  | _ => False
def convW (P : Program) (src dst : TypeId) (k : AV → Prop) : AV → Prop
  | .p (.sc (.int _ n)) => Av.isSome P src = true ∧ match Av.intOf P dst with
    | some c => k (.p (.sc (.int c (c.wrap n))))
    | none => False
  | .p (.sc (.string s)) => Av.isSome P src = true ∧ if isStr P dst = true then k (.p (.str (bs s))) else isBytes P dst = true ∧ isStr P src = true ∧ (bs s).length ≤ 9223372036854775807 ∧ k (.p (.sl (bytesPC (bs s))))
  | .p .nil => isBytes P src = true ∧ isStr P dst = true ∧ k (.p (.str []))
  | .p (.sl xs) => isBytes P src = true ∧ isStr P dst = true ∧ ∃ l, xs = bytesPC l ∧ k (.p (.str l))
  | _ => False
def ifaceW (P : Program) (t : TypeId) (k : AV → Prop) : AV → Prop
  | .p (.sc v) => Av.isSome P t = true ∧ isIface P t = false ∧ k (.p (.sc (.iface t v)))
  | _ => False
def ifaceO (P : Program) (t : TypeId) (k : AV → Prop) : AV → Prop
  | .obj id off => Av.isSome P t = true ∧ isIface P t = false ∧ k (.ifc t (.obj id off))
  | x => ifaceW P t k x.nm
def fnW (f : Fn) (k : AV → Prop) (ys : List AV) : Option (List PC) → Prop
  | some xs => k (.p (.fn f xs))
  | none => k (.clo f ys)
def extractW (i : Nat) (k : AV → Prop) : AV → Prop
  | .p (.agg true xs) => match xs[i]? with
    | some y => k (.p y)
    | none => False
  | _ => False
def nilW (k : AV → Prop) : AV → Prop
  | .p (.ref y) => k (.p (.ref y))
  | .p (.fn (.func f) xs) => k (.p (.fn (.func f) xs))
  | _ => False
def minW (k : AV → Prop) : List AV → Prop
  | [.p (.sc (.int a x)), .p (.sc (.int b y))] => a = b ∧ k (.p (.sc (.int a (if y < x then y else x))))
  | _ => False
def maxW (k : AV → Prop) : List AV → Prop
  | [.p (.sc (.int a x)), .p (.sc (.int b y))] => a = b ∧ k (.p (.sc (.int a (if y > x then y else x))))
  | _ => False
def valueW (P : Program) (k : AV → Prop) (xs : Option (List PC)) : AV → Prop
  | .p (.fn (.func g) caps) => match xs with
    | some xs => callW P g (xs.map PC.wk ++ caps) k
    | none => False
  | _ => False

/-- places, and lists that are still written -/
def faO (P : Program) (t : TypeId) (i : Nat) (k : AV → Prop) : AV → Prop
  | .obj id off => match fld P t i with
    | some (o, s, _) => s ≠ 0 ∧ k (.obj id (off + o))
    | none => False
  | x => fieldAddrW P t i k x.nm

def opE (P : Program) (op : Op) (e : Operand → AV) (k : AV → Prop) : Prop :=
  match op with
  | .move x | .assign x => k (e x)
  | .pick c a b => pickW k (e a) (e b) (e c).nm
  | .box _ x => boxW k (e x).nm
  | .load t x => loadW P t k (e x).nm
  | .fieldAddr t x i => faO P t i k (e x)
  | .field t x i => fieldW P t i k (e x).nm
  | .indexAddr t x i => indexAddrW P t k (e x).nm (e i).nm
  | .index t x i => indexW P t k (e x).nm (e i).nm
  | .slice t x lo hi none => sliceW P t (lo.map fun y => (e y).nm) (hi.map fun y => (e y).nm) k (e x).nm
  | .binOp op t x y _ => binopW P op t k (e x).nm (e y).nm
  | .unOp op _ x => unopW op k (e x).nm
  | .convert src dst x => convW P src dst k (e x).nm
  | .makeInterface t x => ifaceO P t k (e x)
  | .makeFunc f fs cs => fs = #[] ∧ fnW f k (cs.toList.map e) (allP (cs.toList.map fun y => (e y).nm))
  | .extract x i => extractW i k (e x).nm
  | .nilCheck x => nilW k (e x).nm
  | .call c => match c.callee with
    | .builtin .len => c.args.size = 1 ∧ c.argTypes.size = 1 ∧ lenW P (c.argTypes.getD 0 0) k (e (c.args.getD 0 (.tmp 0))).nm
    | .builtin .min => minW k (c.args.toList.map fun y => (e y).nm)
    | .builtin .max => maxW k (c.args.toList.map fun y => (e y).nm)
    | .builtin _ => False
    | .value f => valueW P k (allP (c.args.toList.map fun y => (e y).nm)) (e f).nm
    | .invoke _ _ => False
  | _ => False

/-- what an operation answers -/
def opW (P : Program) (o : Oper) (e : Operand → AV) (k : AV → Prop) : Prop := opE P o.op e k

end Go.Av

/-! part AvYld -/
namespace Go.Av
open Go.RowKit

section
variable {P : Program}

theorem run_isAgg {t : TypeId} {a : Bool} (h : tyAgg P t = some a) (w : World) : (Go.isAgg t).run P w = .ok a w := by
  unfold tyAgg at h
  unfold Go.isAgg
  cases hU : P.underlying t with
  | none => rw [hU] at h; cases h
  | some d =>
    rw [hU] at h
    cases d <;> simp at h <;> subst h <;> simp [run_underlying hU]

theorem run_sizeOf {t : TypeId} {s : Nat} (h : tySize P t = some s) (w : World) : (sizeOf t).run P w = .ok s w := by
  unfold tySize at h
  cases hi : P.info? t with
  | none => rw [hi] at h; cases h
  | some i => rw [hi] at h; simp at h; subst h; simp [sizeOf, typeInfo, hi]

theorem cells_at {w : World} {M : Mem} {b off : Nat} {vs : List Value} (hH : Holds w M) (hat : At M b off vs) :
    ∀ j v, vs[j]? = some v → w.cell? ((⟨b, off, none⟩ : Addr).add j) = some v := fun j v h => by
  rw [Addr.add_lit]; exact hH _ _ _ (hat j v h)

theorem run_loadVar_rep {t : TypeId} {x : PC} {u : Value} {M : Mem} {w : World} {b off : Nat} (hf : fits P t x = true) (hr : Rep M u x) (hat : At M b off u.cells.toList) (hH : Holds w M) :
    (loadVar t ⟨b, off, none⟩).run P w = .ok u w := by
  have pl : x.plain = true → (tyAgg P t = some false) → (loadVar t ⟨b, off, none⟩).run P w = .ok u w := fun hp ha => by
    obtain ⟨hc, _⟩ := rep_plain hr hp
    have h0 := cells_at hH hat 0 u (by rw [hc]; rfl)
    rw [Addr.add_lit, Nat.add_zero] at h0
    simp [loadVar, run_isAgg ha, load, Sem.run, h0]
  cases x with
  | agg b' xs =>
    cases b' with
    | true => simp [fits] at hf
    | false =>
      simp only [fits, Bool.and_eq_true, beq_iff_eq] at hf
      cases hr with
      | agg hs h1 =>
        rename_i vs
        have hl := hs.length
        have := run_loadCells_list (P := P) w ⟨b, off, none⟩ vs (fun j v h => by
          have := cells_at hH hat j v (by simpa [Value.cells] using h)
          exact this)
        simp [loadVar, run_isAgg hf.1, run_sizeOf hf.2, ← hl, this]
  | sc v => exact pl rfl (by simpa [fits] using hf)
  | nil => exact pl rfl (by simpa [fits] using hf)
  | sl v => exact pl rfl (by simpa [fits] using hf)
  | ref v => exact pl rfl (by simpa [fits] using hf)
  | fn f v => exact pl rfl (by simpa [fits] using hf)

theorem flatMap_get {sz : Nat} : ∀ (us : List Value), (∀ u ∈ us, u.cells.size = sz) → ∀ (i j : Nat) (u : Value), us[i]? = some u → ∀ v, u.cells.toList[j]? = some v → (cellsOf us)[i * sz + j]? = some v
  | [], _, _, _, _, h, _, _ => by simp at h
  | a :: us, hs, 0, j, u, h, v, hv => by
    simp at h; subst h
    simp only [cellsOf, List.flatMap_cons, Nat.zero_mul, Nat.zero_add]
    have hj : j < a.cells.toList.length := (List.getElem?_eq_some_iff.1 hv).1
    rw [List.getElem?_append_left hj]; exact hv
  | a :: us, hs, i + 1, j, u, h, v, hv => by
    simp at h
    have ha : a.cells.toList.length = sz := by simpa using hs a (by simp)
    simp only [cellsOf, List.flatMap_cons]
    rw [List.getElem?_append_right (by rw [ha, Nat.add_mul]; omega), ha]
    have := flatMap_get us (fun u hu => hs u (by simp [hu])) i j u h v hv
    rw [show (i + 1) * sz + j - sz = i * sz + j by rw [Nat.add_mul]; omega]
    exact this

theorem cellsOf_length {sz : Nat} : ∀ (us : List Value), (∀ u ∈ us, u.cells.size = sz) → (cellsOf us).length = us.length * sz
  | [], _ => by simp [cellsOf]
  | a :: us, h => by
    have := cellsOf_length us (fun u hu => h u (by simp [hu]))
    simp only [cellsOf, List.flatMap_cons, List.length_append, List.length_cons, Array.length_toList] at this ⊢
    rw [h a (by simp), this, Nat.add_mul]; omega

theorem At.sub {M : Mem} {b off : Nat} {vs ws : List Value} {k : Nat} (h : At M b off vs) (hs : ∀ (j : Nat) (v : Value), ws[j]? = some v → vs[k + j]? = some v) : At M b (off + k) ws := fun j v e => by
  rw [Nat.add_assoc]; exact h _ _ (hs j v e)

theorem cellsOf_take {sz : Nat} (us : List Value) (h : ∀ u ∈ us, u.cells.size = sz) (n : Nat) : ∀ (j : Nat) (v : Value), (cellsOf (us.take n))[j]? = some v → (cellsOf us)[j]? = some v := by
  intro j v e
  have : cellsOf us = cellsOf (us.take n) ++ cellsOf (us.drop n) := by
    unfold cellsOf; rw [← List.flatMap_append, List.take_append_drop]
  rw [this, List.getElem?_append_left (List.getElem?_eq_some_iff.1 e).1]; exact e

theorem cellsOf_drop {sz : Nat} (us : List Value) (h : ∀ u ∈ us, u.cells.size = sz) (n : Nat) (hn : n ≤ us.length) : ∀ (j : Nat) (v : Value), (cellsOf (us.drop n))[j]? = some v → (cellsOf us)[n * sz + j]? = some v := by
  intro j v e
  have h1 : cellsOf us = cellsOf (us.take n) ++ cellsOf (us.drop n) := by
    unfold cellsOf; rw [← List.flatMap_append, List.take_append_drop]
  have h2 : (cellsOf (us.take n)).length = n * sz := by
    rw [cellsOf_length _ (fun u hu => h u (List.mem_of_mem_take hu)), List.length_take, Nat.min_eq_left hn]
  rw [h1, List.getElem?_append_right (by omega), h2]
  simpa using e

/-- A part of a struct's cells. -/
theorem part_rep {M : Mem} {vs : List Value} {xs : List PC} (hs : Reps M vs xs) (h1 : ∀ v ∈ vs, v.oneCell' = true) {off s : Nat} {a : Bool} {y : PC} (hp : part off s a xs = some y) :
    ∃ u, Rep M u y ∧ (∀ (j : Nat) (v : Value), u.cells.toList[j]? = some v → vs[off + j]? = some v) ∧
      (if a = true then u = .agg (vs.toArray.extract off (off + s)) else vs[off]? = some u) := by
  unfold part at hp
  cases a with
  | true =>
    simp only [if_true] at hp
    split at hp
    · rename_i hle
      injection hp with hp; subst hp
      refine ⟨.agg ((vs.drop off).take s).toArray, .agg ((hs.drop off).take s) (fun v hv => h1 v (List.mem_of_mem_drop (List.mem_of_mem_take hv))), ?_, ?_⟩
      · intro j v e
        simp only [Value.cells, List.getElem?_take, List.getElem?_drop] at e
        split at e
        · exact e
        · cases e
      · simp only [if_true]; congr 1
        apply Array.ext'
        simp [List.extract_toArray, List.take_drop]
    · cases hp
  | false =>
    simp only [Bool.false_eq_true, if_false] at hp
    split at hp
    · obtain ⟨u, hu, hr⟩ := hs.get hp
      have hone := h1 u (List.mem_of_getElem? hu)
      have hc : u.cells = #[u] := by cases u <;> simp_all [Value.cells, Value.oneCell']
      refine ⟨u, hr, ?_, by simpa using hu⟩
      intro j v e
      rw [hc] at e
      cases j with
      | zero => simp at e; subst e; simpa using hu
      | succ j => simp at e
    · cases hp

end
end Go.Av

/-! part AvYld2 -/
namespace Go.Av
open Go.RowKit

section
variable {P : Program} {sl : Nat → AV} {o : Oper}

theorem repV_p {g : G} {v : Value} {x : PC} (h : RepV g v (.p x)) : Rep g.M v x := by cases h; assumption

theorem y_move {x : Operand} (ho : o.op = .move x ∨ o.op = .assign x) : AYld P sl o (evS sl x) :=
  yld_raw fun w0 M0 F tb g a w hw h => ⟨a.eval x, by rcases ho with ho | ho <;> simp [execOp, ho], h x (by rcases ho with ho | ho <;> simp [ho, Op.operands])⟩

theorem y_pick {c x y : Operand} {t : Bool} (ho : o.op = .pick c x y) (hc : (evS sl c).nm = .p (.sc (.bool t))) : AYld P sl o (if t = true then evS sl x else evS sl y) :=
  yld_raw fun w0 M0 F tb g a w hw h => by
    have h1 := repV_nm (h c (by simp [ho, Op.operands])); rw [hc] at h1
    have h1' := repV_p h1
    generalize hv : a.eval c = v at h1'
    cases h1'
    refine ⟨if t then a.eval x else a.eval y, by simp [execOp, ho, hv, asBool], ?_⟩
    cases t
    · exact h y (by simp [ho, Op.operands])
    · exact h x (by simp [ho, Op.operands])

/-- memory with a new block that lasts -/
def Mem.ext (M : Mem) (b : Nat) (cs : List Value) : Mem := fun b' o => if b' = b then cs[o]? else M b' o

theorem ext_ok {w0 : World} {M0 : Mem} {F : Nat → Prop} {tb : Tb} {g : G} {w : World} (hw : SatW w0 M0 F tb g w) (cs : List Value) (e : TypeId) (fz : Nat × Nat) :
    g.M.le (g.M.ext w.heap.size cs) ∧ Holds (w.alloc (.cells cs.toArray e fz)) (g.M.ext w.heap.size cs) ∧ (∀ b, b < w.heap.size → g.M.ext w.heap.size cs b = g.M b) ∧
    Below w.heap.size w (w.alloc (.cells cs.toArray e fz)) ∧ At (g.M.ext w.heap.size cs) w.heap.size 0 cs := by
  have hB : Below w.heap.size w (w.alloc (.cells cs.toArray e fz)) := (Below.refl _ _).alloc (Nat.le_refl _) _
  have hle : g.M.le (g.M.ext w.heap.size cs) := fun b o v h => by
    have := hw.holds.lt h
    unfold Mem.ext; rw [if_neg (by omega)]; exact h
  refine ⟨hle, ⟨fun b o v h => ?_, hw.holds.g.mono hle⟩, fun b hb => ?_, hB, fun j v h => ?_⟩
  · unfold Mem.ext at h
    split at h
    · rename_i e'; subst e'
      have : (w.alloc (.cells cs.toArray e fz)).heap[w.heap.size]? = some (.cells cs.toArray e fz) := heap_alloc_new w _
      unfold World.cell?; rw [this]; simpa using h
    · have hb := hw.holds.lt h
      rw [hB.cell (p := ⟨b, o, none⟩) hb]; exact hw.holds b o v h
  · funext o; unfold Mem.ext; rw [if_neg (by omega)]
  · unfold Mem.ext; rw [if_pos rfl, Nat.zero_add]; exact h

theorem y_box {t : TypeId} {x : Operand} {y : PC} (ho : o.op = .box t x) (hx : (evS sl x).nm = .p y) : AYld P sl o (.p (.ref y)) :=
  yld_new fun w0 M0 F tb g a w hw h => by
    have h1 := h x (by simp [ho, Op.operands]); rw [hx] at h1
    have h1' := repV_p h1
    obtain ⟨e1, e2, e3, e4, e5⟩ := ext_ok hw (a.eval x).cells.toList t (0, 0)
    refine ⟨.pointer (some ⟨w.heap.size, 0, none⟩), w.alloc (.cells (a.eval x).cells t), _, ?_, e1, by simpa using e2, e3, by simpa using e4, .p (.ref e5 (h1'.mono e1))⟩
    simp [execOp, ho, Instr.box, newVar, newRow]

theorem y_load {t : TypeId} {x : Operand} {y : PC} (ho : o.op = .load t x) (hx : (evS sl x).nm = .p (.ref y)) (hf : fits P t y = true) : AYld P sl o (.p y) :=
  yld_value fun w0 M0 F tb g a w hw h => by
    have h1 := h x (by simp [ho, Op.operands]); rw [hx] at h1
    have h1' := repV_p h1
    generalize hv : a.eval x = v at h1'
    cases h1'
    rename_i b off u hat hr
    exact ⟨u, by simp [execOp, ho, hv, Instr.loadAt, Instr.sureAddr, run_loadVar_rep hf hr hat hw.holds], .p hr⟩

theorem y_fieldAddr {t : TypeId} {x : Operand} {i off s : Nat} {ag : Bool} {xs : List PC} {y : PC} (ho : o.op = .fieldAddr t x i) (hx : (evS sl x).nm = .p (.ref (.agg false xs)))
    (hf : fld P t i = some (off, s, ag)) (hp : part off s ag xs = some y) (hs : s ≠ 0) : AYld P sl o (.p (.ref y)) :=
  yld_value fun w0 M0 F tb g a w hw h => by
    have h1 := h x (by simp [ho, Op.operands]); rw [hx] at h1
    have h1' := repV_p h1
    generalize hv : a.eval x = v at h1'
    cases h1'
    rename_i b bo u hat hr
    cases hr with
    | agg hrs hone =>
      rename_i vs
      obtain ⟨u', hu1, hu2, _⟩ := part_rep hrs hone hp
      refine ⟨.pointer (some ⟨b, bo + off, none⟩), ?_, .p (.ref (At.sub hat (fun j v e => by simpa [Value.cells] using hu2 j v e)) hu1)⟩
      unfold fld at hf
      split at hf
      · rename_i fs hU
        split at hf
        · rename_i f hfi
          split at hf
          · rename_i s' a' hs' ha'
            injection hf with hf
            obtain ⟨rfl, rfl, rfl⟩ := by simpa using hf
            simp [execOp, ho, hv, Instr.fieldAt, run_underlying hU, hfi, Instr.sureAddr, fieldPlace, run_sizeOf hs', hs, Addr.add_lit]
          · cases hf
        · cases hf
      · cases hf

theorem run_part {t : TypeId} {a : Bool} {s off : Nat} {vs : List Value} {u : Value} (hs : tySize P t = some s) (ha : tyAgg P t = some a)
    (h : if a = true then u = .agg (vs.toArray.extract off (off + s)) else vs[off]? = some u) (w : World) : (Go.part t vs.toArray off).run P w = .ok u w := by
  unfold Go.part
  cases a with
  | true => simp only [if_true] at h; subst h; simp [run_isAgg ha, run_sizeOf hs]
  | false => simp only [Bool.false_eq_true, if_false] at h; simp [run_isAgg ha, h]

theorem y_field {t : TypeId} {x : Operand} {i off s : Nat} {ag : Bool} {xs : List PC} {y : PC} (ho : o.op = .field t x i) (hx : (evS sl x).nm = .p (.agg false xs))
    (hf : fld P t i = some (off, s, ag)) (hp : part off s ag xs = some y) : AYld P sl o (.p y) :=
  yld_value fun w0 M0 F tb g a w hw h => by
    have h1 := h x (by simp [ho, Op.operands]); rw [hx] at h1
    have h1' := repV_p h1
    generalize hv : a.eval x = v at h1'
    cases h1' with
    | agg hrs hone =>
      rename_i vs
      obtain ⟨u', hu1, _, hu3⟩ := part_rep hrs hone hp
      refine ⟨u', ?_, .p hu1⟩
      unfold fld at hf
      split at hf
      · rename_i fs hU
        split at hf
        · rename_i f hfi
          split at hf
          · rename_i s' a' hs' ha'
            injection hf with hf
            obtain ⟨rfl, rfl, rfl⟩ := by simpa using hf
            have := run_part (P := P) hs' ha' hu3 w
            simp [execOp, ho, hv, Instr.field, run_underlying hU, hfi, asAgg, this]
          · cases hf
        · cases hf
      · cases hf

theorem y_indexAddr {t : TypeId} {x i : Operand} {xs : List PC} {kd : IntKind} {n : Int} {j : Nat} {y : PC} (ho : o.op = .indexAddr t x i) (hx : (evS sl x).nm = .p (.sl xs))
    (hi : (evS sl i).nm = .p (.sc (.int kd n))) (hn : n = (j : Nat)) (hy : xs[j]? = some y) (hsz : elSize P t = some y.width) : AYld P sl o (.p (.ref y)) :=
  yld_value fun w0 M0 F tb g a w hw h => by
    have h1 := h x (by simp [ho, Op.operands]); rw [hx] at h1
    have h1' := repV_p h1
    have h2 := h i (by simp [ho, Op.operands]); rw [hi] at h2
    have h2' := repV_p h2
    generalize hv : a.eval x = v at h1'
    generalize hv2 : a.eval i = v2 at h2'
    cases h2'
    cases h1' with
    | nilsl => simp at hy
    | sl0 a => simp at hy
    | sl hl hc hm hs0 hu h1c hat hrs =>
      rename_i b off m cap sz us
      obtain ⟨u, hu1, hu2⟩ := hrs.get hy
      have hjl : j < us.length := (List.getElem?_eq_some_iff.1 hu1).1
      have hw' : y.width = sz := by rw [← rep_width hu2]; exact hu u (List.mem_of_getElem? hu1)
      refine ⟨.pointer (some ⟨b, off + j * sz, none⟩), ?_, .p (.ref (At.sub hat (fun k v e => flatMap_get us hu j k u hu1 v e)) hu2)⟩
      unfold elSize at hsz
      split at hsz
      · rename_i el hU
        have hcond : (0 : Int) ≤ n ∧ n < (m : Int) := by rw [hn, ← hl]; omega
        have hcond' : (0 : Int) ≤ (j : Int) ∧ (j : Int) < (m : Int) := by rw [← hn]; exact hcond
        simp [execOp, ho, hv, hv2, hn, Instr.indexAt, asIntOf, run_underlying hU, show j < m by omega, run_sizeOf hsz, hw', Addr.add_lit]
      · cases hsz

theorem y_indexArr {t : TypeId} {x i : Operand} {xs : List PC} {kd : IntKind} {n : Int} {m s : Nat} {ag : Bool} {y : PC} (ho : o.op = .indexAddr t x i) (hx : (evS sl x).nm = .p (.ref (.agg false xs)))
    (hi : (evS sl i).nm = .p (.sc (.int kd n))) (hf : arrEl P t = some (m, s, ag)) (h0 : 0 ≤ n) (hn : n < (m : Int)) (hp : part (n.toNat * s) s ag xs = some y) : AYld P sl o (.p (.ref y)) :=
  yld_value fun w0 M0 F tb g a w hw h => by
    have h1 := h x (by simp [ho, Op.operands]); rw [hx] at h1
    have h1' := repV_p h1
    have h2 := h i (by simp [ho, Op.operands]); rw [hi] at h2
    have h2' := repV_p h2
    generalize hv : a.eval x = v at h1'
    generalize hv2 : a.eval i = v2 at h2'
    cases h2'
    cases h1'
    rename_i b bo u hat hr
    cases hr with
    | agg hrs hone =>
      rename_i vs
      obtain ⟨u', hu1, hu2, _⟩ := part_rep hrs hone hp
      refine ⟨.pointer (some ⟨b, bo + n.toNat * s, none⟩), ?_, .p (.ref (At.sub hat (fun j v e => by simpa [Value.cells] using hu2 j v e)) hu1)⟩
      unfold arrEl at hf
      split at hf
      · rename_i m' e hU
        split at hf
        · rename_i s' a' hs' ha'
          injection hf with hf
          obtain ⟨rfl, rfl, rfl⟩ := by simpa using hf
          simp [execOp, ho, hv, hv2, Instr.indexAt, asIntOf, run_underlying hU, Instr.sureAddr, h0, hn, run_sizeOf hs', Addr.add_lit]
        · cases hf
      · cases hf

theorem y_indexVal {t : TypeId} {x i : Operand} {xs : List PC} {kd : IntKind} {n : Int} {m s : Nat} {ag : Bool} {y : PC} (ho : o.op = .index t x i) (hx : (evS sl x).nm = .p (.agg false xs))
    (hi : (evS sl i).nm = .p (.sc (.int kd n))) (hf : arrEl P t = some (m, s, ag)) (h0 : 0 ≤ n) (hn : n < (m : Int)) (hp : part (n.toNat * s) s ag xs = some y) : AYld P sl o (.p y) :=
  yld_value fun w0 M0 F tb g a w hw h => by
    have h1 := h x (by simp [ho, Op.operands]); rw [hx] at h1
    have h1' := repV_p h1
    have h2 := h i (by simp [ho, Op.operands]); rw [hi] at h2
    have h2' := repV_p h2
    generalize hv : a.eval x = v at h1'
    generalize hv2 : a.eval i = v2 at h2'
    cases h2'
    cases h1' with
    | agg hrs hone =>
      rename_i vs
      obtain ⟨u', hu1, _, hu3⟩ := part_rep hrs hone hp
      refine ⟨u', ?_, .p hu1⟩
      unfold arrEl at hf
      split at hf
      · rename_i m' e hU
        split at hf
        · rename_i s' a' hs' ha'
          injection hf with hf
          obtain ⟨rfl, rfl, rfl⟩ := by simpa using hf
          have := run_part (P := P) hs' ha' hu3 w
          simp [execOp, ho, hv, hv2, Instr.index, asIntOf, run_underlying hU, h0, hn, run_sizeOf hs', this]
        · cases hf
      · cases hf

theorem y_index {t : TypeId} {x i : Operand} {s : ByteArray} {kd : IntKind} {n : Int} {j : Nat} {c : UInt8} (ho : o.op = .index t x i) (hx : (evS sl x).nm = .p (.sc (.string s)))
    (hi : (evS sl i).nm = .p (.sc (.int kd n))) (hn : n = (j : Nat)) (ht : isStr P t = true) (hc : (bs s)[j]? = some c) : AYld P sl o (.p (.sc (.int .u8 c.toNat))) :=
  yld_value fun w0 M0 F tb g a w hw h => by
    have h1 := h x (by simp [ho, Op.operands]); rw [hx] at h1
    have h1' := repV_p h1
    have h2 := h i (by simp [ho, Op.operands]); rw [hi] at h2
    have h2' := repV_p h2
    generalize hv : a.eval x = v at h1'
    generalize hv2 : a.eval i = v2 at h2'
    cases h2'
    cases h1'
    refine ⟨.int .u8 c.toNat, ?_, .p (.sc _ rfl)⟩
    unfold isStr at ht
    split at ht
    · rename_i hU
      have hs : s[j]? = some c := by
        unfold bs at hc
        have hj := (List.getElem?_eq_some_iff.1 hc)
        obtain ⟨hj1, hj2⟩ := hj
        rw [getElem?_pos s j (by simpa using hj1)]
        congr 1
      simp [execOp, ho, hv, hv2, hn, Instr.index, asIntOf, run_underlying hU, hs]
    · cases ht

end
end Go.Av

/-! part AvYld3 -/
namespace Go.Av
open Go.RowKit

section
variable {P : Program} {sl : Nat → AV} {o : Oper}

theorem bs_size (s : ByteArray) : (bs s).length = s.size := by simp [bs]
theorem strV_bs (s : ByteArray) : strV (bs s) = .string s := by unfold strV; congr 1
theorem bs_append (a b : ByteArray) : bs (a ++ b) = bs a ++ bs b := by simp [bs]

/-- the bounds of a slice expression, run -/
theorem run_bnd {isS : Bool} {n cap l h : Nat} {lo hi : Option Value} (hlo : match lo with | none => l = 0 | some v => ∃ k, v = .int k l) (hhi : match hi with | none => h = n | some v => ∃ k, v = .int k h)
    (h1 : l ≤ h) (h2 : h ≤ cap) (w : World) : (Instr.sliceBounds isS n cap lo hi none).run P w = .ok (l, h, cap) w := by
  unfold Instr.sliceBounds
  cases lo with
  | none =>
    simp only at hlo; subst hlo
    cases hi with
    | none => simp only at hhi; subst hhi; simp
    | some v => obtain ⟨k, rfl⟩ := hhi; simp [Instr.sliceBound, asIntOf, show h ≤ cap by omega]
  | some u =>
    obtain ⟨k, rfl⟩ := hlo
    cases hi with
    | none => simp only at hhi; subst hhi; simp [Instr.sliceBound, asIntOf, h1]
    | some v => obtain ⟨k', rfl⟩ := hhi; simp [Instr.sliceBound, asIntOf, show h ≤ cap by omega, h1]

theorem bnd_val {g : G} {a : Act} {lo : Option Operand} {l d : Nat} (hr : ∀ y, lo = some y → RepV g (a.eval y) ((evS sl y).nm))
    (h : match lo.map (fun y => (evS sl y).nm) with | none => l = d | some (.p (.sc (.int _ i))) => i = (l : Int) | _ => False) :
    match lo.map a.eval with | none => l = d | some v => ∃ k, v = .int k l := by
  cases lo with
  | none => simpa using h
  | some y =>
    simp only [Option.map_some] at h ⊢
    have hy := hr y rfl
    split at h
    · rename_i hh; simp at hh
    · rename_i k i hh
      simp only [Option.some.injEq] at hh
      rw [hh] at hy
      have := repV_p hy
      generalize a.eval y = v at this
      cases this
      exact ⟨_, by rw [h]⟩
    · exact h.elim

theorem y_sliceS {t : TypeId} {x : Operand} {lo hi : Option Operand} {s : ByteArray} {l h : Nat} (ho : o.op = .slice t x lo hi none) (hx : (evS sl x).nm = .p (.sc (.string s))) (ht : isStr P t = true)
    (hlo : match lo.map (fun y => (evS sl y).nm) with | none => l = 0 | some (.p (.sc (.int _ i))) => i = (l : Int) | _ => False)
    (hhi : match hi.map (fun y => (evS sl y).nm) with | none => h = (bs s).length | some (.p (.sc (.int _ i))) => i = (h : Int) | _ => False) (h1 : l ≤ h) (h2 : h ≤ (bs s).length) :
    AYld P sl o (.p (.str (((bs s).take h).drop l))) :=
  yld_value fun w0 M0 F tb g a w hw hr => by
    have h3 := hr x (by simp [ho, Op.operands]); rw [hx] at h3
    have h3' := repV_p h3
    generalize hv : a.eval x = v at h3'
    cases h3'
    have b1 := bnd_val (fun y e => hr y (by simp [ho, Op.operands, e])) hlo
    have b2 := bnd_val (fun y e => hr y (by simp [ho, Op.operands, e])) hhi
    rw [bs_size] at b2 h2
    have hb := run_bnd (P := P) (isS := false) (cap := s.size) b1 b2 h1 h2 w
    refine ⟨strV (((bs s).take h).drop l), ?_, .p (.sc _ rfl)⟩
    unfold isStr at ht
    split at ht
    · rename_i hU
      have e : strV (((bs s).take h).drop l) = .string (s.extract l h) := by
        rw [← strV_bs]; congr 1
        simp [bs, List.drop_take]
      rw [e]
      simp [execOp, ho, hv, Instr.sliceAt, Instr.slice, run_underlying hU, hb]
    · cases ht

theorem y_sliceL {t : TypeId} {x : Operand} {lo hi : Option Operand} {xs : List PC} {l h : Nat} (ho : o.op = .slice t x lo hi none) (hx : (evS sl x).nm = .p (.sl xs)) (ht : (elSize P t).isSome = true)
    (hwd : ∀ y ∈ xs, elSize P t = some y.width)
    (hlo : match lo.map (fun y => (evS sl y).nm) with | none => l = 0 | some (.p (.sc (.int _ i))) => i = (l : Int) | _ => False)
    (hhi : match hi.map (fun y => (evS sl y).nm) with | none => h = xs.length | some (.p (.sc (.int _ i))) => i = (h : Int) | _ => False) (h1 : l ≤ h) (h2 : h ≤ xs.length) :
    AYld P sl o (.p (.sl ((xs.take h).drop l))) :=
  yld_value fun w0 M0 F tb g a w hw hr => by
    have h3 := hr x (by simp [ho, Op.operands]); rw [hx] at h3
    have h3' := repV_p h3
    generalize hv : a.eval x = v at h3'
    have b1 := bnd_val (fun y e => hr y (by simp [ho, Op.operands, e])) hlo
    have b2 := bnd_val (fun y e => hr y (by simp [ho, Op.operands, e])) hhi
    obtain ⟨es, hes⟩ := Option.isSome_iff_exists.1 ht
    have hU : ∃ el, P.underlying t = some (.slice el) ∧ tySize P el = some es := by
      unfold elSize at hes
      split at hes
      · rename_i el hU; exact ⟨el, hU, hes⟩
      · cases hes
    obtain ⟨el, hU, hsz⟩ := hU
    cases h3' with
    | nilsl =>
      simp at h2 b2
      obtain rfl : h = 0 := by omega
      obtain rfl : l = 0 := by omega
      have hb := run_bnd (P := P) (isS := true) (n := 0) (cap := 0) b1 (by simpa using b2) h1 (Nat.le_refl _) w
      exact ⟨.slice none 0 0, by simp [execOp, ho, hv, Instr.sliceAt, Instr.slice, run_underlying hU, hb, run_sizeOf hsz], .p (by simpa using Rep.nilsl)⟩
    | sl0 ad =>
      simp at h2 b2
      obtain rfl : h = 0 := by omega
      obtain rfl : l = 0 := by omega
      have hb := run_bnd (P := P) (isS := true) (n := 0) (cap := 0) b1 (by simpa using b2) h1 (Nat.le_refl _) w
      exact ⟨.slice (some ad) 0 0, by simp [execOp, ho, hv, Instr.sliceAt, Instr.slice, run_underlying hU, hb, run_sizeOf hsz], .p (by simpa using Rep.sl0 ad)⟩
    | sl hl hc hm hs0 hu h1c hat hrs =>
      rename_i b off n cap sz us
      have hlx := hrs.length
      have hn : n = xs.length := by omega
      have hb := run_bnd (P := P) (isS := true) (n := n) (cap := cap) b1 (by rw [hn]; exact b2) h1 (by omega) w
      have hes' : 0 < xs.length → es = sz := fun hp => by
        have hy := hwd (xs[0]'hp) (List.getElem_mem hp)
        obtain ⟨u, hu1, hu2⟩ := hrs.get (i := 0) (List.getElem?_eq_getElem hp)
        have : u.cells.size = sz := hu u (List.mem_of_getElem? hu1)
        rw [rep_width hu2] at this
        rw [hes] at hy; injection hy with hy; omega
      have hoff : (if cap = l then (some (⟨b, off, none⟩ : Addr)) else some ⟨b, off + l * es, none⟩) = some ⟨b, off + (if cap = l then 0 else l * es), none⟩ := by split <;> simp
      refine ⟨.slice (some ⟨b, off + (if cap = l then 0 else l * es), none⟩) (h - l) (cap - l), ?_, .p ?_⟩
      · rw [← hoff]
        simp [execOp, ho, hv, Instr.sliceAt, Instr.slice, run_underlying hU, hb, run_sizeOf hsz, Addr.add_lit]
      · have hus : ∀ u ∈ (us.take h).drop l, u.cells.size = sz := fun u hu' => hu u (List.mem_of_mem_take (List.mem_of_mem_drop hu'))
        refine .sl (sz := sz) (us := (us.take h).drop l) (by simp; omega) (by omega) (by omega) hs0 hus (fun v hv => h1c v (by
          obtain ⟨u, hu1, hu2⟩ := List.mem_flatMap.1 hv
          exact List.mem_flatMap.2 ⟨u, List.mem_of_mem_take (List.mem_of_mem_drop hu1), hu2⟩)) ?_ ((hrs.take h).drop l)
        by_cases hcl : cap = l
        · have : (us.take h).drop l = [] := by apply List.drop_eq_nil_of_le; simp; omega
          rw [this]; intro j v e; simp [cellsOf] at e
        · rw [if_neg hcl]
          by_cases hp : 0 < xs.length
          · rw [hes' hp]
            refine hat.sub fun j v e => ?_
            have hut : ∀ u ∈ us.take h, u.cells.size = sz := fun u hu' => hu u (List.mem_of_mem_take hu')
            exact cellsOf_take us hu h _ _ (cellsOf_drop (us.take h) hut l (by simp; omega) j v e)
          · have : (us.take h).drop l = [] := by apply List.drop_eq_nil_of_le; simp; omega
            rw [this]; intro j v e; simp [cellsOf] at e

theorem run_equalIn_bool {t : TypeId} (h : P.underlying t = some .bool) (d : Nat) (a b : Bool) (w : World) : (Op.equalIn (d + 1) t (.bool a) (.bool b)).run P w = .ok (a == b) w := by
  simp [Op.equalIn, run_underlying h]
theorem run_eql_bool {t : TypeId} (h : P.underlying t = some .bool) (a b : Bool) (w : World) : (binOp .eql t (.bool a) (.bool b)).run P w = .ok (.bool (a == b)) w := by
  show (do pure (.bool (← Op.equalIn (9999 + 1) t (.bool a) (.bool b))) : Sem Value).run P w = _
  simp [run_equalIn_bool h]
theorem run_neq_bool {t : TypeId} (h : P.underlying t = some .bool) (a b : Bool) (w : World) : (binOp .neq t (.bool a) (.bool b)).run P w = .ok (.bool (a != b)) w := by
  show (do pure (.bool (!(← Op.equalIn (9999 + 1) t (.bool a) (.bool b)))) : Sem Value).run P w = _
  simp [run_equalIn_bool h, bne]

theorem y_nil_sc {g : G} {v u : Value} (h : RepV g v (.p (.sc u))) : v = u := by cases repV_p h; rfl

theorem y_binOp {op : BinOp} {t t' : TypeId} {x y : Operand} {u v : Value} {k : Value → Prop} (ho : o.op = .binOp op t x y t') (hx : (evS sl x).nm = .p (.sc u)) (hy : (evS sl y).nm = .p (.sc v))
    (hb : binW P op t k u v) : ∃ r, k r ∧ AYld P sl o (.p (.sc r)) := by
  have key : ∀ r, r.oneCell' = true → (∀ w, (do eqGuard op t x y u v; binOp op t u v).run P w = .ok r w) → AYld P sl o (.p (.sc r)) := fun r h1 hr =>
    yld_value fun w0 M0 F tb g a w hw h => by
      have e1 := h x (by simp [ho, Op.operands]); rw [hx] at e1
      have e2 := h y (by simp [ho, Op.operands]); rw [hy] at e2
      have e1 := y_nil_sc e1
      have e2 := y_nil_sc e2
      refine ⟨r, ?_, .p (.sc _ h1)⟩
      have e : execOp a.eval o = (do let r ← (do eqGuard op t x y u v; binOp op t u v); pure (.value r)) := by unfold execOp; rw [ho]; simp only [e1, e2]
      rw [e, Sem.run_bind, hr w]; rfl
  cases u with
  | int c m =>
    cases v with
    | int d n =>
      cases op <;> (try unfold binW at hb) <;> (try dsimp only at hb) <;> (try simp only [and_false] at hb)
      case shl => exact ⟨_, hb.2, key _ rfl fun w => by simp [go_sem, Op.shift, show ¬ n < 0 by omega]⟩
      case shr => exact ⟨_, hb.2, key _ rfl fun w => by simp [go_sem, Op.shift, show ¬ n < 0 by omega]⟩
      case quo => obtain ⟨rfl, h0, hb⟩ := hb; exact ⟨_, hb, key _ rfl fun w => by simp [go_sem, h0]⟩
      case rem => obtain ⟨rfl, h0, hb⟩ := hb; exact ⟨_, hb, key _ rfl fun w => by simp [go_sem, h0]⟩
      all_goals (obtain ⟨rfl, hb⟩ := hb; exact ⟨_, hb, key _ rfl fun w => by simp [go_sem]⟩)
    | _ => simp [binW] at hb
  | string s =>
    cases v with
    | string t =>
      cases op <;> (try unfold binW at hb) <;> (try dsimp only at hb)
      case add => exact ⟨_, hb.2, key _ rfl fun w => by
        rw [bs_size, bs_size] at hb
        have e : strV (bs s ++ bs t) = .string (s ++ t) := by rw [← bs_append, strV_bs]
        rw [e]; simp [go_sem, binOp, hb.1]⟩
      case neq => exact ⟨_, hb, key _ rfl fun w => by simp [go_sem, binOp, Op.stringOp, toList_bs, bne]⟩
      all_goals exact ⟨_, hb, key _ rfl fun w => by simp [go_sem, binOp, Op.stringOp, toList_bs]⟩
    | _ => simp [binW] at hb
  | bool b =>
    cases v with
    | bool d =>
      have hU : isBool P t = true := by simp only [binW] at hb; exact hb.1
      have hU' : P.underlying t = some .bool := by
        unfold isBool at hU
        split at hU
        · assumption
        · cases hU
      cases op <;> (try unfold binW at hb) <;> (try dsimp only at hb) <;> (try simp only [and_false] at hb)
      case eql => exact ⟨_, hb.2, key _ rfl fun w => by simp [go_sem, run_eql_bool hU']⟩
      case neq => exact ⟨_, hb.2, key _ rfl fun w => by simp [go_sem, run_neq_bool hU']⟩
    | _ => simp [binW] at hb
  | _ => simp [binW] at hb

end
end Go.Av

/-! part AvYld4 -/
namespace Go.Av
open Go.RowKit

section
variable {P : Program} {sl : Nat → AV} {o : Oper}

theorem run_unary_neg (c : IntKind) (n : Int) (w : World) : (Op.unary .neg (.int c n)).run P w = .ok (.int c (c.wrap (0 - n))) w := by simp [Op.unary, Op.intArith]

theorem y_not {t : TypeId} {x : Operand} {b : Bool} (ho : o.op = .unOp .not t x) (hx : (evS sl x).nm = .p (.sc (.bool b))) : AYld P sl o (.p (.bool !b)) :=
  yld_value fun w0 M0 F tb g a w hw h => by
    have e1 := h x (by simp [ho, Op.operands]); rw [hx] at e1
    have e1 := y_nil_sc e1
    exact ⟨.bool !b, by simp [execOp, ho, e1, Op.unary], .p (.sc _ rfl)⟩

theorem y_neg {t : TypeId} {x : Operand} {c : IntKind} {n : Int} (ho : o.op = .unOp .neg t x) (hx : (evS sl x).nm = .p (.sc (.int c n))) : AYld P sl o (.p (.sc (.int c (c.wrap (0 - n))))) :=
  yld_value fun w0 M0 F tb g a w hw h => by
    have e1 := h x (by simp [ho, Op.operands]); rw [hx] at e1
    have e1 := y_nil_sc e1
    have := run_unary_neg (P := P) c n w
    exact ⟨.int c (c.wrap (0 - n)), by simp only [execOp, ho, e1, Sem.run_bind, this]; rfl, .p (.sc _ rfl)⟩

theorem und_of {t : TypeId} (h : Av.isSome P t = true) : ∃ d, P.underlying t = some d := Option.isSome_iff_exists.1 h

theorem y_convI {s d : TypeId} {x : Operand} {c c' : IntKind} {n : Int} (ho : o.op = .convert s d x) (hx : (evS sl x).nm = .p (.sc (.int c' n))) (hs : Av.isSome P s = true) (hd : Av.intOf P d = some c) :
    AYld P sl o (.p (.sc (.int c (c.wrap n)))) :=
  yld_value fun w0 M0 F tb g a w hw h => by
    have e1 := h x (by simp [ho, Op.operands]); rw [hx] at e1
    have e1 := y_nil_sc e1
    obtain ⟨u, hu⟩ := und_of hs
    have hd' : P.underlying d = some (.int c) := by
      unfold Av.intOf at hd
      split at hd
      · injection hd with hd; subst hd; assumption
      · cases hd
    exact ⟨.int c (c.wrap n), by simp [execOp, ho, e1, convert, run_underlying hu, run_underlying hd', Conv.intToInt], .p (.sc _ rfl)⟩

theorem str_of {t : TypeId} (h : isStr P t = true) : P.underlying t = some .string := by
  unfold isStr at h
  split at h
  · assumption
  · cases h

theorem bytes_of {t : TypeId} (h : isBytes P t = true) : ∃ e, P.underlying t = some (.slice e) ∧ P.underlying e = some (.int .u8) := by
  unfold isBytes at h
  split at h
  · rename_i e he
    split at h
    · rename_i h2; exact ⟨e, he, h2⟩
    · cases h
  · cases h

theorem y_convSS {s d : TypeId} {x : Operand} {b : ByteArray} (ho : o.op = .convert s d x) (hx : (evS sl x).nm = .p (.sc (.string b))) (hs : Av.isSome P s = true) (hd : isStr P d = true) :
    AYld P sl o (.p (.str (bs b))) :=
  yld_value fun w0 M0 F tb g a w hw h => by
    have e1 := h x (by simp [ho, Op.operands]); rw [hx] at e1
    have e1 := y_nil_sc e1
    obtain ⟨u, hu⟩ := und_of hs
    refine ⟨.string b, by simp [execOp, ho, e1, convert, run_underlying hu, run_underlying (str_of hd)], ?_⟩
    unfold PC.str; rw [strV_bs]
    exact .p (.sc _ rfl)

theorem reps_bytes (M : Mem) : ∀ (l : List UInt8), Reps M (l.map fun b => Value.int .u8 b.toNat) (bytesPC l)
  | [] => .nil
  | b :: l => .cons (.sc _ rfl) (reps_bytes M l)

theorem reps_bytes_inv {M : Mem} : ∀ (l : List UInt8) {us : List Value}, Reps M us (bytesPC l) → us = l.map fun b => Value.int .u8 b.toNat
  | [], _, h => by cases h; rfl
  | b :: l, _, h => by
    cases h with
    | cons hr hs => cases hr; rw [reps_bytes_inv l hs]; rfl

theorem cellsOf_bytes : ∀ (l : List UInt8), cellsOf (l.map fun b => Value.int .u8 b.toNat) = l.map fun b => Value.int .u8 b.toNat
  | [] => rfl
  | b :: l => by
    have := cellsOf_bytes l
    simp only [cellsOf, List.map_cons, List.flatMap_cons] at this ⊢
    rw [this]; simp [Value.cells]

theorem y_convSB {s d : TypeId} {x : Operand} {b : ByteArray} (ho : o.op = .convert s d x) (hx : (evS sl x).nm = .p (.sc (.string b))) (hs : isStr P s = true) (hd : isBytes P d = true)
    (hl : (bs b).length ≤ 9223372036854775807) : AYld P sl o (.p (.sl (bytesPC (bs b)))) :=
  yld_new fun w0 M0 F tb g a w hw h => by
    have e1 := h x (by simp [ho, Op.operands]); rw [hx] at e1
    have e1 := y_nil_sc e1
    obtain ⟨e, he1, he2⟩ := bytes_of hd
    have hr := run_bytes_of_string (P := P) w s d e b (str_of hs) he1 he2
    rw [bs_size] at hl
    have hcap := grownCap_ge w b.size 0 e
    have hcap2 := grownCap_le_maxLen w b.size 0 e (by unfold maxLen; omega)
    have hwd : SatW w0 M0 F tb g w.drew := hw.drew
    generalize grownCap w b.size 0 e = cap at hr hcap hcap2
    obtain ⟨m1, m2, m3, m4, m5⟩ := ext_ok hwd (bytesRow b cap).toList e ((bytesRow b cap).size, (bytesRow b cap).size + 1)
    have hat : At (g.M.ext w.drew.heap.size (bytesRow b cap).toList) w.drew.heap.size 0 (cellsOf ((bs b).map fun b => Value.int .u8 b.toNat)) := fun j v hj => by
      refine m5 j v ?_
      rw [cellsOf_bytes] at hj
      have hj' : j < b.size := by have := (List.getElem?_eq_some_iff.1 hj).1; simpa [bs] using this
      unfold bytesRow
      rw [Array.toList_append, List.getElem?_append_left (by simpa using hj')]
      simpa [bs] using hj
    refine ⟨.slice (some ⟨w.heap.size, 0, none⟩) b.size cap, _, _, ?_, m1, by simpa using m2, m3, ((Below.refl _ w).drew).trans (by simpa using m4), .p (.sl (sz := 1) (by simp [bs]) hcap hcap2 (by decide) (by simp [Value.cells]) (by rw [cellsOf_bytes]; simp [Value.oneCell']) hat (reps_bytes _ _))⟩
    simp only [execOp, ho, e1, Sem.run_bind, hr]; rfl

theorem y_convBS {s d : TypeId} {x : Operand} {l : List UInt8} (ho : o.op = .convert s d x) (hx : (evS sl x).nm = .p (.sl (bytesPC l))) (hs : isBytes P s = true) (hd : isStr P d = true) :
    AYld P sl o (.p (.str l)) :=
  yld_value fun w0 M0 F tb g a w hw h => by
    have h1 := h x (by simp [ho, Op.operands]); rw [hx] at h1
    have h1' := repV_p h1
    obtain ⟨e, he1, he2⟩ := bytes_of hs
    generalize hv : a.eval x = v at h1'
    generalize hz : bytesPC l = zs at h1'
    refine ⟨strV l, ?_, .p (.sc _ rfl)⟩
    cases h1' with
    | nilsl =>
      have : l = [] := by cases l <;> simp_all [bytesPC]
      subst this
      have hr := run_convert_bytes_string (P := P) w s d e none 0 0 he1 he2 (str_of hd)
      simp only [execOp, ho, hv, Sem.run_bind, hr]
      rfl
    | sl0 ad =>
      have : l = [] := by cases l <;> simp_all [bytesPC]
      subst this
      have hr := run_convert_bytes_string (P := P) w s d e (some ad) 0 0 he1 he2 (str_of hd)
      simp only [execOp, ho, hv, Sem.run_bind, hr]
      rfl
    | sl hn hc hm hsz hu h1c hat hrs =>
      rename_i b off n cap sz us
      subst hz
      have hus := reps_bytes_inv l hrs
      subst hus
      rw [cellsOf_bytes] at hat
      have hn' : n = l.length := by simpa using hn.symm
      subst hn'
      have hr := run_convert_bytes_back (P := P) w s d e ⟨b, off, none⟩ cap l he1 he2 (str_of hd) (fun j hj => by
        rw [Addr.add_lit]; exact hw.holds _ _ _ (hat j _ (by simp [hj])))
      simp only [execOp, ho, hv, Sem.run_bind, hr]
      rfl

theorem y_convNil {s d : TypeId} {x : Operand} (ho : o.op = .convert s d x) (hx : (evS sl x).nm = .p .nil) (hs : isBytes P s = true) (hd : isStr P d = true) :
    AYld P sl o (.p (.str [])) :=
  yld_value fun w0 M0 F tb g a w hw h => by
    have h1 := h x (by simp [ho, Op.operands]); rw [hx] at h1
    have h1' := repV_p h1
    obtain ⟨e, he1, he2⟩ := bytes_of hs
    generalize hv : a.eval x = v at h1'
    cases h1'
    have hr := run_convert_bytes_string (P := P) w s d e none 0 0 he1 he2 (str_of hd)
    refine ⟨strV [], ?_, .p (.sc _ rfl)⟩
    simp only [execOp, ho, hv, Sem.run_bind, hr]
    rfl

theorem y_iface {t : TypeId} {x : Operand} {v : Value} (ho : o.op = .makeInterface t x) (hx : (evS sl x).nm = .p (.sc v)) (hs : Av.isSome P t = true) (hi : isIface P t = false) :
    AYld P sl o (.p (.sc (.iface t v))) :=
  yld_value fun w0 M0 F tb g a w hw h => by
    have e1 := h x (by simp [ho, Op.operands]); rw [hx] at e1
    have e1 := y_nil_sc e1
    obtain ⟨u, hu⟩ := und_of hs
    refine ⟨.iface t v, ?_, .p (.sc _ rfl)⟩
    have hr : (Instr.makeInterface t v).run P w = .ok (.iface t v) w := by
      unfold Instr.makeInterface
      simp only [Sem.run_bind, run_underlying hu, Result.andThen_ok]
      cases u <;> first | rfl | (unfold isIface at hi; rw [hu] at hi; simp at hi)
    simp only [execOp, ho, e1, Sem.run_bind, hr]; rfl

theorem y_ifaceO {t : TypeId} {x : Operand} {id off : Nat} (ho : o.op = .makeInterface t x) (hx : evS sl x = .obj id off) (hs : Av.isSome P t = true) (hi : isIface P t = false) :
    AYld P sl o (.ifc t (.obj id off)) :=
  yld_raw fun w0 M0 F tb g a w hw h => by
    have e1 := h x (by simp [ho, Op.operands]); rw [hx] at e1
    obtain ⟨u, hu⟩ := und_of hs
    refine ⟨.iface t (a.eval x), ?_, .ifc e1⟩
    have hr : (Instr.makeInterface t (a.eval x)).run P w = .ok (.iface t (a.eval x)) w := by
      unfold Instr.makeInterface
      simp only [Sem.run_bind, run_underlying hu, Result.andThen_ok]
      cases u <;> first | rfl | (unfold isIface at hi; rw [hu] at hi; simp at hi)
    simp only [execOp, ho, Sem.run_bind, hr]; rfl

theorem allP_reps {g : G} {a : Act} : ∀ (l : List Operand) (xs : List PC), (∀ y ∈ l, RepV g (a.eval y) (evS sl y).nm) → allP (l.map fun y => (evS sl y).nm) = some xs → Reps g.M (l.map a.eval) xs
  | [], xs, _, h => by simp [allP] at h; subst h; exact .nil
  | y :: l, xs, hr, h => by
    have h1 := hr y (by simp)
    simp only [List.map_cons] at h ⊢
    cases he : (evS sl y).nm with
    | p x =>
      rw [he] at h h1
      simp only [allP] at h
      split at h
      · rename_i r hr'
        injection h with h; subst h
        exact .cons (repV_p h1) (allP_reps l r (fun z hz => hr z (by simp [hz])) hr')
      · cases h
    | _ => rw [he] at h; simp [allP] at h

theorem y_fn {f : Fn} {cs : Array Operand} {xs : List PC} (ho : o.op = .makeFunc f #[] cs) (hx : allP (cs.toList.map fun y => (evS sl y).nm) = some xs) : AYld P sl o (.p (.fn f xs)) :=
  yld_value fun w0 M0 F tb g a w hw h => by
    have := allP_reps (g := g) (a := a) cs.toList xs (fun y hy => h y (by rw [ho]; simpa [Op.operands] using hy)) hx
    refine ⟨.func f #[] (cs.map a.eval), ?_, ?_⟩
    · simp [execOp, ho, Instr.makeFunc]
    · have e : (cs.map a.eval) = ((cs.toList.map a.eval).toArray) := by rw [← Array.toList_map, Array.toArray_toList]
      rw [e]; exact .p (.fn this)

theorem repVs_ev {g : G} {a : Act} : ∀ (l : List Operand), (∀ y ∈ l, RepV g (a.eval y) (evS sl y)) → RepVs g (l.map a.eval) (l.map (evS sl))
  | [], _ => .nil
  | y :: l, h => .cons (h y (by simp)) (repVs_ev l fun z hz => h z (by simp [hz]))
theorem y_clo {f : Fn} {cs : Array Operand} (ho : o.op = .makeFunc f #[] cs) : AYld P sl o (.clo f (cs.toList.map (evS sl))) :=
  yld_raw fun w0 M0 F tb g a w hw h => by
    have := repVs_ev (g := g) (a := a) cs.toList (fun y hy => h y (by rw [ho]; simpa [Op.operands] using hy))
    refine ⟨.func f #[] (cs.map a.eval), ?_, ?_⟩
    · simp [execOp, ho, Instr.makeFunc]
    · have e : (cs.map a.eval) = ((cs.toList.map a.eval).toArray) := by rw [← Array.toList_map, Array.toArray_toList]
      rw [e]; exact .clo this
theorem y_extract {x : Operand} {i : Nat} {xs : List PC} {y : PC} (ho : o.op = .extract x i) (hx : (evS sl x).nm = .p (.agg true xs)) (hy : xs[i]? = some y) : AYld P sl o (.p y) :=
  yld_value fun w0 M0 F tb g a w hw h => by
    have h1 := h x (by simp [ho, Op.operands]); rw [hx] at h1
    have h1' := repV_p h1
    generalize hv : a.eval x = v at h1'
    cases h1' with
    | tup hs =>
      obtain ⟨u, hu, hr⟩ := hs.get hy
      exact ⟨u, by simp [execOp, ho, hv, Instr.extract, hu], .p hr⟩

theorem y_nilR {x : Operand} {y : PC} (ho : o.op = .nilCheck x) (hx : (evS sl x).nm = .p (.ref y)) : AYld P sl o (.p (.ref y)) :=
  yld_value fun w0 M0 F tb g a w hw h => by
    have h1 := h x (by simp [ho, Op.operands]); rw [hx] at h1
    have h1' := repV_p h1
    generalize hv : a.eval x = v at h1'
    refine ⟨v, ?_, .p h1'⟩
    cases h1'
    simp [execOp, ho, hv]

theorem y_nilF {x : Operand} {f : FuncId} {ys : List PC} (ho : o.op = .nilCheck x) (hx : (evS sl x).nm = .p (.fn (.func f) ys)) : AYld P sl o (.p (.fn (.func f) ys)) :=
  yld_value fun w0 M0 F tb g a w hw h => by
    have h1 := h x (by simp [ho, Op.operands]); rw [hx] at h1
    have h1' := repV_p h1
    generalize hv : a.eval x = v at h1'
    refine ⟨v, ?_, .p h1'⟩
    cases h1'
    simp [execOp, ho, hv]

end
end Go.Av

/-! part AvYld5 -/
namespace Go.Av
open Go.RowKit

theorem rep_wk1 {M : Mem} {v : Value} {x : PC} (h : Rep M v x) : Rep M v x.wk1 := by
  unfold PC.wk1
  split
  · cases h; exact .nilsl
  · exact h

theorem reps_wk1 {M : Mem} : ∀ {vs : List Value} {xs : List PC}, Reps M vs xs → Reps M vs (xs.map PC.wk1)
  | _, _, .nil => .nil
  | _, _, .cons h hs => .cons (rep_wk1 h) (reps_wk1 hs)

theorem rep_wk {M : Mem} {v : Value} {x : PC} (h : Rep M v x) : Rep M v x.wk := by
  unfold PC.wk
  split
  · cases h; exact .nilsl
  · cases h with
    | agg hs h1 => exact .agg (reps_wk1 hs) h1
    | tup hs => exact .tup (reps_wk1 hs)
  · exact h

theorem reps_wk {M : Mem} : ∀ {vs : List Value} {xs : List PC}, Reps M vs xs → Reps M vs (xs.map PC.wk)
  | _, _, .nil => .nil
  | _, _, .cons h hs => .cons (rep_wk h) (reps_wk hs)

section
variable {P : Program} {sl : Nat → AV} {o : Oper}

theorem one_arg {α : Type} {a : Array α} (h : a.size = 1) (d : α) : a = #[a.getD 0 d] := by
  match a, h with
  | ⟨[x]⟩, _ => rfl

theorem y_len {c : Call} (ho : o.op = .call c) (hc : c.callee = .builtin .len) (h1 : c.args.size = 1) (h2 : c.argTypes.size = 1) {k : AV → Prop}
    (hk : lenW P (c.argTypes.getD 0 0) k (evS sl (c.args.getD 0 (.tmp 0))).nm) : ∃ x, k x ∧ AYld P sl o x := by
  have ea := one_arg h1 (.tmp 0)
  have et := one_arg h2 0
  generalize c.args.getD 0 (.tmp 0) = x at *
  generalize c.argTypes.getD 0 0 = t at *
  have run : ∀ (a : Act) (w : World), (execOp a.eval o).run P w = ((Builtin.len_ #[t] o.type #[a.eval x]).run P w).andThen fun v w => .ok (.value v) w := fun a w => by
    simp only [execOp, ho, resolve, hc, ea, et, Sem.run_bind, Sem.run_pure, Result.andThen_ok, invoke, builtin, List.map_toArray, List.map_cons, List.map_nil]
  have hop : x ∈ o.op.operands := by rw [ho]; simp [Op.operands, Call.operands, hc, ea]
  have len_sl : ∀ {v : Value} {M : Mem} {xs : List PC}, Rep M v (.sl xs) → ∃ a n c, v = .slice a n c ∧ n = xs.length := fun h => by
    cases h with
    | nilsl => exact ⟨_, _, _, rfl, rfl⟩
    | sl0 a => exact ⟨_, _, _, rfl, rfl⟩
    | sl hn hc hm hsz hu h1c hat hrs => exact ⟨_, _, _, rfl, by rw [← hn, hrs.length]⟩
  have len_ok : ∀ (a : Option Addr) (n c : Nat) (w : World), (elSize P t).isSome = true → (Builtin.len_ #[t] o.type #[.slice a n c]).run P w = .ok (.int .i64 n) w := fun a n c w h => by
    obtain ⟨s, hs⟩ := Option.isSome_iff_exists.1 h
    unfold elSize at hs
    split at hs
    · rename_i e hU
      simp [Builtin.len_, run_underlying hU, goInt]
    · cases hs
  unfold lenW at hk
  split at hk
  · rename_i s hx
    refine ⟨_, hk.2, yld_value fun w0 M0 F tb g a w hw h => ?_⟩
    have e1 := h x hop; rw [hx] at e1
    have e1 := y_nil_sc e1
    refine ⟨.int .i64 (bs s).length, ?_, .p (.sc _ rfl)⟩
    rw [run, e1, bs_size]
    simp [Builtin.len_, run_underlying (str_of hk.1), goInt]
  · rename_i hx
    refine ⟨_, hk.2, yld_value fun w0 M0 F tb g a w hw h => ?_⟩
    have e1 := h x hop; rw [hx] at e1
    have e1 := repV_p e1
    refine ⟨.int .i64 0, ?_, .p (.sc _ rfl)⟩
    rw [run]
    generalize a.eval x = v at e1
    cases e1
    rw [len_ok _ _ _ _ hk.1]; rfl
  · rename_i xs hx
    refine ⟨_, hk.2, yld_value fun w0 M0 F tb g a w hw h => ?_⟩
    have e1 := h x hop; rw [hx] at e1
    obtain ⟨ad, n, c, e2, e3⟩ := len_sl (repV_p e1)
    refine ⟨.int .i64 xs.length, ?_, .p (.sc _ rfl)⟩
    rw [run, e2, len_ok _ _ _ _ hk.1, e3]; rfl
  · exact hk.elim

theorem two_args {α β : Type} {f : α → β} {a : List α} {u v : β} (h : a.map f = [u, v]) : ∃ x y, a = [x, y] ∧ f x = u ∧ f y = v := by
  match a, h with
  | [x, y], h => simp at h; exact ⟨x, y, rfl, h.1, h.2⟩

theorem y_min {c : Call} {kd : IntKind} {m n : Int} (ho : o.op = .call c) (hc : c.callee = .builtin .min) (ha : c.args.toList.map (fun y => (evS sl y).nm) = [.p (.sc (.int kd m)), .p (.sc (.int kd n))]) :
    AYld P sl o (.p (.sc (.int kd (if n < m then n else m)))) := by
  obtain ⟨x, y, e, hx, hy⟩ := two_args ha
  have ea : c.args = #[x, y] := by rw [← Array.toArray_toList (xs := c.args), e]
  refine yld_value fun w0 M0 F tb g a w hw h => ?_
  have e1 := h x (by rw [ho]; simp [Op.operands, Call.operands, hc, ea]); rw [hx] at e1
  have e2 := h y (by rw [ho]; simp [Op.operands, Call.operands, hc, ea]); rw [hy] at e2
  have e1 := y_nil_sc e1
  have e2 := y_nil_sc e2
  exact ⟨.int kd (if n < m then n else m), by simp [execOp, ho, resolve, hc, ea, invoke, builtin, e1, e2, Builtin.min_, Builtin.min2], .p (.sc _ rfl)⟩

theorem y_max {c : Call} {kd : IntKind} {m n : Int} (ho : o.op = .call c) (hc : c.callee = .builtin .max) (ha : c.args.toList.map (fun y => (evS sl y).nm) = [.p (.sc (.int kd m)), .p (.sc (.int kd n))]) :
    AYld P sl o (.p (.sc (.int kd (if n > m then n else m)))) := by
  obtain ⟨x, y, e, hx, hy⟩ := two_args ha
  have ea : c.args = #[x, y] := by rw [← Array.toArray_toList (xs := c.args), e]
  refine yld_value fun w0 M0 F tb g a w hw h => ?_
  have e1 := h x (by rw [ho]; simp [Op.operands, Call.operands, hc, ea]); rw [hx] at e1
  have e2 := h y (by rw [ho]; simp [Op.operands, Call.operands, hc, ea]); rw [hy] at e2
  have e1 := y_nil_sc e1
  have e2 := y_nil_sc e2
  exact ⟨.int kd (if n > m then n else m), by simp [execOp, ho, resolve, hc, ea, invoke, builtin, e1, e2, Builtin.max_, Builtin.max2], .p (.sc _ rfl)⟩

theorem run_callFunc {f : FuncId} (h : CanCall P f) (args : Array Value) (w : World) : (callFunc f args).run P w = .ok (.enter f args) w := by
  obtain ⟨fn, h1, h2, h3⟩ := h
  simp only [callFunc, Sem.run_bind, run_program, Result.andThen_ok, h1, h2, h3, Bool.false_eq_true, if_false]
  rfl

theorem y_call {c : Call} {f : Operand} {gf : FuncId} {caps xs : List PC} {r : PC} (ho : o.op = .call c) (hc : c.callee = .value f) (hf : (evS sl f).nm = .p (.fn (.func gf) caps))
    (hx : allP (c.args.toList.map fun y => (evS sl y).nm) = some xs) (hp : PureC P gf (xs.map PC.wk ++ caps) r) : AYld P sl o (.p r) := by
  intro w0 M0 F tb g a w hw hop K Q hK
  have hop' : ∀ y, y ∈ o.op.operands → RepV g (a.eval y) ((evS sl y).nm) := fun y hy => repV_nm (repV_ev y fun t e => hop t (e ▸ hy))
  have h1 := hop' f (by rw [ho]; simp [Op.operands, Call.operands, hc])
  rw [hf] at h1
  have h1' := repV_p h1
  generalize hv : a.eval f = v at h1'
  cases h1' with
  | fn hcaps =>
    rename_i cv
    have hargs := allP_reps (g := g) (a := a) c.args.toList xs (fun y hy => hop' y (by rw [ho]; simp [Op.operands, Call.operands, hc]; exact Or.inr (by simpa using hy))) hx
    have hall := (reps_wk hargs).append hcaps
    have e : (c.args.map a.eval) = (c.args.toList.map a.eval).toArray := by rw [← Array.toList_map, Array.toArray_toList]
    have hrun : (execOp a.eval o).run P w = .ok (.enter gf ((c.args.toList.map a.eval) ++ cv).toArray) w := by
      simp [execOp, ho, resolve, hc, hv, Deferred.ofValue, invoke, run_callFunc hp.1]
    unfold Oper.wp
    rw [hrun]
    refine (hp.2 g.M w _ hw.holds hall).mono ?_
    rintro e' w' ⟨v', N, rfl, hr, hH, hM, hO, hB⟩
    exact hK v' w' N hM (hw.later hM hH hO hB) (.p hr)

theorem bnd_of {lo : Option AV} {d l : Nat} : bndN d lo = some l → bndC lo → match lo with | none => l = d | some (.p (.sc (.int _ i))) => i = (l : Int) | _ => False := by
  intro h hc
  unfold bndN at h
  split at h
  · injection h with h; exact h.symm
  · injection h with h; simp only [bndC] at hc; first | omega | (simp only; omega)
  · cases h

/-! ### places and rows -/

theorem y_faO {t : TypeId} {x : Operand} {i id off o' s : Nat} {ag : Bool} (ho : o.op = .fieldAddr t x i) (hx : evS sl x = .obj id off) (hf : fld P t i = some (o', s, ag)) (hs : s ≠ 0) :
    AYld P sl o (.obj id (off + o')) :=
  yld_raw fun w0 M0 F tb g a w hw h => by
    have h1 := h x (by simp [ho, Op.operands]); rw [hx] at h1
    generalize hv : a.eval x = v at h1
    cases h1 with
    | obj e =>
      rename_i b c
      refine ⟨.pointer (some ⟨b, off + o', none⟩), ?_, .obj e⟩
      unfold fld at hf
      split at hf
      · rename_i fs hU
        split at hf
        · rename_i f hfi
          split at hf
          · rename_i s' a' hs' ha'
            injection hf with hf
            obtain ⟨rfl, rfl, rfl⟩ := by simpa using hf
            simp [execOp, ho, hv, Instr.fieldAt, run_underlying hU, hfi, Instr.sureAddr, fieldPlace, run_sizeOf hs', hs, Addr.add_lit]
          · cases hf
        · cases hf
      · cases hf

theorem y_iaO {t : TypeId} {x i : Operand} {id off m s : Nat} {kd : IntKind} {n : Int} {ag : Bool} (ho : o.op = .indexAddr t x i) (hx : evS sl x = .obj id off) (hi : (evS sl i).nm = .p (.sc (.int kd n)))
    (hf : arrEl P t = some (m, s, ag)) (h0 : 0 ≤ n) (hn : n < (m : Int)) : AYld P sl o (.obj id (off + n.toNat * s)) :=
  yld_raw fun w0 M0 F tb g a w hw h => by
    have h1 := h x (by simp [ho, Op.operands]); rw [hx] at h1
    have h2 := repV_nm (h i (by simp [ho, Op.operands])); rw [hi] at h2
    have h2' := repV_p h2
    generalize hv : a.eval x = v at h1
    generalize hv2 : a.eval i = v2 at h2'
    cases h2'
    cases h1 with
    | obj e =>
      rename_i b c
      refine ⟨.pointer (some ⟨b, off + n.toNat * s, none⟩), ?_, .obj e⟩
      unfold arrEl at hf
      split at hf
      · rename_i m' e hU
        split at hf
        · rename_i s' a' hs' ha'
          injection hf with hf
          obtain ⟨rfl, rfl, rfl⟩ := by simpa using hf
          simp [execOp, ho, hv, hv2, Instr.indexAt, asIntOf, run_underlying hU, Instr.sureAddr, h0, hn, run_sizeOf hs', Addr.add_lit]
        · cases hf
      · cases hf

theorem opW_yld {k : AV → Prop} (h : opW P o (evS sl) k) : ∃ x, k x ∧ AYld P sl o x := by
  unfold opW opE at h
  split at h
  · rename_i x ho; exact ⟨_, h, y_move (.inl ho)⟩
  · rename_i x ho; exact ⟨_, h, y_move (.inr ho)⟩
  · rename_i c x y ho
    unfold pickW at h; split at h
    · rename_i t hc; exact ⟨_, h, y_pick ho hc⟩
    · exact h.elim
  · rename_i t x ho
    unfold boxW at h; split at h
    · rename_i y hx; exact ⟨_, h, y_box ho hx⟩
    · exact h.elim
  · rename_i t x ho
    unfold loadW at h; split at h
    · rename_i y hx; exact ⟨_, h.2, y_load ho hx h.1⟩
    · exact h.elim
  · rename_i t x i ho
    unfold faO at h; split at h
    · rename_i id off hx
      split at h
      · rename_i o' s ag h1; exact ⟨_, h.2, y_faO ho hx h1 h.1⟩
      · exact h.elim
    · unfold fieldAddrW at h; split at h
      · rename_i xs hx
        split at h
        · rename_i off s a h1
          split at h
          · rename_i y h2; exact ⟨_, h.2, y_fieldAddr ho hx h1 h2 h.1⟩
          · exact h.elim
        · exact h.elim
      · exact h.elim
  · rename_i t x i ho
    unfold fieldW at h; split at h
    · rename_i xs hx
      split at h
      · rename_i off s a h1
        split at h
        · rename_i y h2; exact ⟨_, h, y_field ho hx h1 h2⟩
        · exact h.elim
      · exact h.elim
    · exact h.elim
  · rename_i t x i ho
    unfold indexAddrW at h; split at h
    · rename_i xs kd n hx hi
      obtain ⟨h0, h⟩ := h
      split at h
      · rename_i y hy; exact ⟨_, h.2, y_indexAddr ho hx hi (by omega) hy h.1⟩
      · exact h.elim
    · rename_i xs kd n hx hi
      split at h
      · rename_i m s a hf
        obtain ⟨h0, hn, h⟩ := h
        split at h
        · rename_i y hy; exact ⟨_, h, y_indexArr ho hx hi hf h0 hn hy⟩
        · exact h.elim
      · exact h.elim
    · exact h.elim
  · rename_i t x i ho
    unfold indexW at h; split at h
    · rename_i s kd n hx hi
      obtain ⟨h0, h1, h⟩ := h
      split at h
      · rename_i c hc; exact ⟨_, h, y_index ho hx hi (by omega) h1 hc⟩
      · exact h.elim
    · rename_i xs kd n hx hi
      split at h
      · rename_i m s a hf
        obtain ⟨h0, hn, h⟩ := h
        split at h
        · rename_i y hy; exact ⟨_, h, y_indexVal ho hx hi hf h0 hn hy⟩
        · exact h.elim
      · exact h.elim
    · exact h.elim
  · rename_i t x lo hi ho
    unfold sliceW at h; split at h
    · rename_i s hx
      obtain ⟨h1, h⟩ := h
      unfold bndW at h; split at h
      · rename_i l hh e1 e2
        obtain ⟨c1, c2, h4, h5, h6⟩ := h
        exact ⟨_, h6, y_sliceS ho hx h1 (bnd_of e1 c1) (bnd_of e2 c2) h4 h5⟩
      · exact h.elim
    · rename_i xs hx
      obtain ⟨h1, hw, h⟩ := h
      unfold bndW at h; split at h
      · rename_i l hh e1 e2
        obtain ⟨c1, c2, h4, h5, h6⟩ := h
        exact ⟨_, h6, y_sliceL ho hx h1 hw (bnd_of e1 c1) (bnd_of e2 c2) h4 h5⟩
      · exact h.elim
    · exact h.elim
  · rename_i op t x y t' ho
    unfold binopW at h; split at h
    · rename_i u v hx hy; obtain ⟨r, h1, h2⟩ := y_binOp (P := P) ho hx hy h; exact ⟨_, h1, h2⟩
    · exact h.elim
  · rename_i op t x ho
    unfold unopW at h; split at h
    · rename_i b hx; obtain ⟨rfl, h⟩ := h; exact ⟨_, h, y_not ho hx⟩
    · rename_i c n hx; obtain ⟨rfl, h⟩ := h; exact ⟨_, h, y_neg ho hx⟩
    · exact h.elim
  · rename_i s d x ho
    unfold convW at h; split at h
    · rename_i kd n hx
      obtain ⟨h1, h⟩ := h
      split at h
      · rename_i c h2; exact ⟨_, h, y_convI ho hx h1 h2⟩
      · exact h.elim
    · rename_i b hx
      obtain ⟨h1, h⟩ := h
      split at h
      · rename_i h2; exact ⟨_, h, y_convSS ho hx h1 h2⟩
      · obtain ⟨h2, h3, h4, h5⟩ := h; exact ⟨_, h5, y_convSB ho hx h3 h2 h4⟩
    · rename_i hx; exact ⟨_, h.2.2, y_convNil ho hx h.1 h.2.1⟩
    · rename_i xs hx; obtain ⟨h1, h2, l, rfl, h3⟩ := h; exact ⟨_, h3, y_convBS ho hx h1 h2⟩
    · exact h.elim
  · rename_i t x ho
    unfold ifaceO at h; split at h
    · rename_i id off hx; exact ⟨_, h.2.2, y_ifaceO ho hx h.1 h.2.1⟩
    · unfold ifaceW at h; split at h
      · rename_i v hx; exact ⟨_, h.2.2, y_iface ho hx h.1 h.2.1⟩
      · exact h.elim
  · rename_i f fs cs ho
    obtain ⟨rfl, h⟩ := h
    unfold fnW at h; split at h
    · rename_i xs h1; exact ⟨_, h, y_fn ho h1⟩
    · exact ⟨_, h, y_clo ho⟩
  · rename_i x i ho
    unfold extractW at h; split at h
    · rename_i xs hx
      split at h
      · rename_i y h1; exact ⟨_, h, y_extract ho hx h1⟩
      · exact h.elim
    · exact h.elim
  · rename_i x ho
    unfold nilW at h; split at h
    · rename_i y hx; exact ⟨_, h, y_nilR ho hx⟩
    · rename_i f ys hx; exact ⟨_, h, y_nilF ho hx⟩
    · exact h.elim
  · rename_i c ho
    split at h
    · rename_i hc
      obtain ⟨h1, h2, h⟩ := h
      exact y_len ho hc h1 h2 h
    · rename_i hc
      unfold minW at h; split at h
      · rename_i a x b y ha; obtain ⟨rfl, h⟩ := h; exact ⟨_, h, y_min ho hc ha⟩
      · exact h.elim
    · rename_i hc
      unfold maxW at h; split at h
      · rename_i a x b y ha; obtain ⟨rfl, h⟩ := h; exact ⟨_, h, y_max ho hc ha⟩
      · exact h.elim
    · exact h.elim
    · rename_i f hc
      unfold valueW at h; split at h
      · rename_i gf caps hf
        split at h
        · rename_i xs hxs; obtain ⟨r, h1, h2⟩ := h; exact ⟨_, h2, y_call ho hc hf hxs h1⟩
        · exact h.elim
      · exact h.elim
    · exact h.elim
  · exact h.elim

end
end Go.Av

/-! part AvTab -/
namespace Go.Av
open Go.RowKit

section
variable {P : Program} {w0 : World} {M0 : Mem} {F : Nat → Prop} {tb : Tb} {g : G} {w w' : World}

theorem lk_cons {α : Type} {t k : Nat} {v : α} {l : List (Nat × α)} : lk t ((k, v) :: l) = if t = k then some v else lk t l := rfl

theorem rowBlock_is {b n cap c : Nat} (h : rowBlock (.slice (some ⟨b, 0, none⟩) n cap) = some c) : c = b := by
  simp only [rowBlock] at h
  split at h
  · injection h with h; exact h.symm
  · cases h
theorem rowBlock_lt {b n cap : Nat} (h : n < cap) : rowBlock (.slice (some ⟨b, 0, none⟩) n cap) = some b := by simp [rowBlock, h]
theorem rowBlock_full {a : Option Addr} {n : Nat} : rowBlock (.slice a n n) = none := by cases a <;> simp [rowBlock]

/-- dropping what is no longer wanted -/
theorem SatW.sub {tb' : Tb} (h : SatW w0 M0 F tb g w) (hb : ∀ i o, lk i tb'.bx = some o → lk i tb.bx = some o) (hr : ∀ i r, lk i tb'.rw = some r → lk i tb.rw = some r) (hn : tb.nx ≤ tb'.nx) :
    SatW w0 M0 F tb' g w :=
  ⟨h.holds, h.keep, h.old, h.mle, fun i o e => h.boxes i o (hb i o e), fun i el sz e => h.rows i el sz (hr i _ e),
   fun i j o p b c b' c' e1 e2 => h.ob_ne i j o p b c b' c' (hb i o e1) (hb j p e2), fun i j r s u v b e1 e2 => h.rw_ne i j r s u v b (hr i r e1) (hr j s e2),
   fun i j o r b c v e1 e2 => h.ob_rw i j o r b c v (hb i o e1) (hr j r e2), fun i hi => h.fresh i (Nat.le_trans hn hi)⟩

theorem SatW.ob_lt (h : SatW w0 M0 F tb g w) {i : Nat} {o : Ob} {b c : Nat} (e : lk i tb.bx = some o) (hb : g.ob i = some (b, c)) (hc : 0 < c) : b < w.heap.size := by
  obtain ⟨cur, _, _, ⟨_, _, h4, _⟩, _⟩ := (h.boxes i o e).real hb hc
  exact heap_lt h4

theorem SatW.rw_lt (h : SatW w0 M0 F tb g w) {i : Nat} {r : TypeId × Nat} {v : Value} {b : Nat} (e : lk i tb.rw = some r) (hv : g.rv i = some v) (hb : rowBlock v = some b) : b < w.heap.size := by
  obtain ⟨v', h1, h2⟩ := h.rows i r.1 r.2 e
  rw [h1] at hv; injection hv with hv; subst hv
  rcases h2 with ⟨a, n, rfl⟩ | ⟨b', n, cap, cur, rfl, _, ⟨_, _, h3, _⟩, _⟩
  · cases a <;> simp [rowBlock] at hb
  · simp only [rowBlock] at hb
    split at hb
    · injection hb with hb; subst hb; exact heap_lt h3
    · cases hb

theorem SatW.nx_ob (h : SatW w0 M0 F tb g w) {i : Nat} {p : Nat × Nat} (e : g.ob i = some p) : i < tb.nx := by
  rcases Nat.lt_or_ge i tb.nx with h' | h'
  · exact h'
  · rw [(h.fresh i h').1] at e; cases e
theorem SatW.nx_rv (h : SatW w0 M0 F tb g w) {i : Nat} {v : Value} (e : g.rv i = some v) : i < tb.nx := by
  rcases Nat.lt_or_ge i tb.nx with h' | h'
  · exact h'
  · rw [(h.fresh i h').2] at e; cases e

def G.obAt (g : G) (n b c : Nat) : G := { g with ob := fun i => if i = n then some (b, c) else g.ob i }
def G.rvAt (g : G) (n : Nat) (v : Value) : G := { g with rv := fun i => if i = n then some v else g.rv i }
def Tb.addOb (tb : Tb) (o : Ob) : Tb := ⟨(tb.nx, o) :: tb.bx, tb.rw, tb.nx + 1⟩
def Tb.addRw (tb : Tb) (el : TypeId) (sz : Nat) : Tb := ⟨tb.bx, (tb.nx, el, sz) :: tb.rw, tb.nx + 1⟩
def Tb.delRw (tb : Tb) (id : Nat) : Tb := { tb with rw := del id tb.rw }
def Tb.delOb (tb : Tb) (id : Nat) : Tb := { tb with bx := del id tb.bx }
def Tb.setOb (tb : Tb) (id : Nat) (o : Ob) : Tb := { tb with bx := (id, o) :: del id tb.bx }

theorem SatW.delRw (h : SatW w0 M0 F tb g w) (id : Nat) : SatW w0 M0 F (tb.delRw id) g w :=
  h.sub (fun _ _ e => e) (fun i r e => by simp only [Tb.delRw, lk_del] at e; split at e; cases e; exact e) (Nat.le_refl _)
theorem SatW.delOb (h : SatW w0 M0 F tb g w) (id : Nat) : SatW w0 M0 F (tb.delOb id) g w :=
  h.sub (fun i r e => by simp only [Tb.delOb, lk_del] at e; split at e; cases e; exact e) (fun _ _ e => e) (Nat.le_refl _)

theorem SatW.leOb (h : SatW w0 M0 F tb g w) (b c : Nat) : g.le (g.obAt tb.nx b c) :=
  ⟨Mem.le_refl _, fun i p e => by have := h.nx_ob e; simp only [G.obAt]; rw [if_neg (by omega)]; exact e, fun _ _ e => e⟩
theorem SatW.leRv (h : SatW w0 M0 F tb g w) (v : Value) : g.le (g.rvAt tb.nx v) :=
  ⟨Mem.le_refl _, fun _ _ e => e, fun i p e => by have := h.nx_rv e; simp only [G.rvAt]; rw [if_neg (by omega)]; exact e⟩

/-- A new object. -/
theorem SatW.newObF (h : SatW w0 M0 F tb g w) {cur : Array Value} {o : Ob} {c : Nat} (hB : Below w.heap.size w w') (hb : ∃ t fz, w'.heap[w.heap.size]? = some (.cells cur t fz) ∧ ObT o.el t cur.size fz) (hs : cur.size = c * o.sz)
    (hc : c ≤ maxLen) (hl : o.xs.length ≤ cur.size) (hr : RepVs g (cur.toList.take o.xs.length) o.xs) (h1 : ∀ v ∈ cur.toList, v.oneCell' = true) :
    SatW w0 M0 F (tb.addOb o) (g.obAt tb.nx w.heap.size c) w' := by
  have hH : Holds w' g.M := ⟨fun b o v e => by
    have hlt := h.holds.lt e
    rw [hB.cell (p := ⟨b, o, none⟩) hlt]; exact h.holds b o v e, h.holds.g⟩
  have hl' := h.later (Mem.le_refl _) hH (fun _ _ => rfl) hB
  have hle := h.leOb w.heap.size c
  have hold : ∀ i p, lk i tb.bx = some p → i ≠ tb.nx := fun i p e => by
    obtain ⟨b, c, e1, _⟩ := h.boxes i p e
    have := h.nx_ob e1; omega
  have hM0 : ∀ off, g.M w.heap.size off = none := fun off => by
    cases e : g.M w.heap.size off with
    | none => rfl
    | some v => have := h.holds.lt e; omega
  refine ⟨hH, hl'.keep, hl'.old, hl'.mle, fun i p e => ?_, fun i el sz e => ?_, ?_, ?_, ?_, ?_⟩
  · simp only [Tb.addOb, lk_cons] at e
    split at e
    · rename_i e'; injection e with e; subst e; subst e'
      refine ⟨w.heap.size, c, by simp [G.obAt], fun _ => ⟨cur, .inl h.keep.size, hM0, hb, hs, hc, hl, hr.mono hle, h1⟩, fun h0 => ?_⟩
      subst h0; simp only [Nat.zero_mul] at hs; exact List.eq_nil_of_length_eq_zero (by omega)
    · rename_i e'
      obtain ⟨b, c', e1, hr', h0⟩ := hl'.boxes i p e
      refine ⟨b, c', by simp only [G.obAt]; rw [if_neg e']; exact e1, fun hc' => ?_, h0⟩
      obtain ⟨cur', e2, e3, e4, e5, e6, e7, e8, e9⟩ := hr' hc'
      exact ⟨cur', e2, e3, e4, e5, e6, e7, e8.mono hle, e9⟩
  · obtain ⟨v, e1, e2⟩ := hl'.rows i el sz e
    exact ⟨v, e1, e2⟩
  · intro i j p q b c1 b' c2 e1 e2 hij e3 e4 p1 p2
    simp only [Tb.addOb, lk_cons] at e1 e2
    simp only [G.obAt] at e3 e4
    split at e1
    · rename_i hi; rw [if_pos hi] at e3; injection e3 with e3; injection e3 with e3 _; subst e3
      split at e2
      · rename_i hj; omega
      · rename_i hj; rw [if_neg hj] at e4; have := h.ob_lt e2 e4 p2; omega
    · rename_i hi; rw [if_neg hi] at e3
      split at e2
      · rename_i hj; rw [if_pos hj] at e4; injection e4 with e4; injection e4 with e4 _; subst e4
        have := h.ob_lt e1 e3 p1; omega
      · rename_i hj; rw [if_neg hj] at e4; exact h.ob_ne i j p q b c1 b' c2 e1 e2 hij e3 e4 p1 p2
  · exact h.rw_ne
  · intro i j p r b c1 v e1 e2 e3 e4 p1 e5
    simp only [Tb.addOb, lk_cons] at e1
    simp only [G.obAt] at e3
    split at e1
    · rename_i hi; rw [if_pos hi] at e3; injection e3 with e3; injection e3 with e3 _; subst e3
      have := h.rw_lt e2 e4 e5; omega
    · rename_i hi; rw [if_neg hi] at e3; exact h.ob_rw i j p r b c1 v e1 e2 e3 e4 p1 e5
  · intro i hi
    simp only [Tb.addOb] at hi
    have := h.fresh i (by omega)
    simp only [G.obAt]; rw [if_neg (by omega)]; exact this
theorem SatW.newOb (h : SatW w0 M0 F tb g w) {cur : Array Value} {o : Ob} {c : Nat} (hB : Below w.heap.size w w') (hb : w'.heap[w.heap.size]? = some (.cells cur o.el (0, 0))) (hs : cur.size = c * o.sz)
    (hc : c ≤ maxLen) (hl : o.xs.length ≤ cur.size) (hr : RepVs g (cur.toList.take o.xs.length) o.xs) (h1 : ∀ v ∈ cur.toList, v.oneCell' = true) :
    SatW w0 M0 F (tb.addOb o) (g.obAt tb.nx w.heap.size c) w' := h.newObF hB ⟨_, _, hb, .inl ⟨rfl, rfl⟩⟩ hs hc hl hr h1

/-- A new list with spare room of its own, in a new block. -/
theorem SatW.newRw (h : SatW w0 M0 F tb g w) {cur : Array Value} {el sz n cap : Nat} (hB : Below w.heap.size w w') (hb : w'.heap[w.heap.size]? = some (.cells cur el (0, 0))) (hs : cur.size = cap * sz)
    (hn : n ≤ cap) (hc : cap ≤ maxLen) (hsz : 0 < sz) :
    let N := g.M.ext w.heap.size (cur.toList.take (n * sz))
    SatW w0 M0 F (tb.addRw el sz) ((g.with N).rvAt tb.nx (.slice (some ⟨w.heap.size, 0, none⟩) n cap)) w' ∧ g.M.le N ∧ At N w.heap.size 0 (cur.toList.take (n * sz)) := by
  intro N
  have hM : g.M.le N := fun b o v e => by
    have := h.holds.lt e
    show (if b = w.heap.size then _ else _) = _; rw [if_neg (by omega)]; exact e
  have hO : ∀ b, b < w.heap.size → N b = g.M b := fun b hb' => by funext o; show (if b = w.heap.size then _ else _) = _; rw [if_neg (by omega)]
  have hat : At N w.heap.size 0 (cur.toList.take (n * sz)) := fun j v e => by show (if w.heap.size = w.heap.size then _ else _) = _; rw [if_pos rfl, Nat.zero_add]; exact e
  have hH : Holds w' N := ⟨fun b o v e => by
    by_cases hbw : b = w.heap.size
    · subst hbw
      have e' : (cur.toList.take (n * sz))[o]? = some v := by
        have e2 : (if w.heap.size = w.heap.size then (cur.toList.take (n * sz))[o]? else g.M w.heap.size o) = some v := e
        rwa [if_pos rfl] at e2
      rw [List.getElem?_take] at e'
      split at e'
      · unfold World.cell?; rw [hb]; simpa using e'
      · cases e'
    · have e' : g.M b o = some v := by
        have e2 : (if b = w.heap.size then (cur.toList.take (n * sz))[o]? else g.M b o) = some v := e
        rwa [if_neg hbw] at e2
      have hlt := h.holds.lt e'
      rw [hB.cell (p := ⟨b, o, none⟩) hlt]; exact h.holds b o v e', h.holds.g.mono hM⟩
  have hl' := h.later hM hH hO hB
  have hle := hl'.leRv (.slice (some ⟨w.heap.size, 0, none⟩) n cap)
  refine ⟨⟨hH, hl'.keep, hl'.old, hl'.mle, fun i p e => ?_, fun i el' sz' e => ?_, ?_, ?_, ?_, ?_⟩, hM, hat⟩
  · obtain ⟨b, c', e1, hr', h0⟩ := hl'.boxes i p e
    refine ⟨b, c', e1, fun hc' => ?_, h0⟩
    obtain ⟨cur', e2, e3, e4, e5, e6, e7, e8, e9⟩ := hr' hc'
    exact ⟨cur', e2, e3, e4, e5, e6, e7, e8.mono hle, e9⟩
  · simp only [Tb.addRw, lk_cons] at e
    split at e
    · rename_i e'; subst e'; injection e with e; injection e with e1 e2; subst e1; subst e2
      refine ⟨.slice (some ⟨w.heap.size, 0, none⟩) n cap, by simp [G.rvAt], ?_⟩
      rcases Nat.lt_or_ge n cap with hlt | hge
      case inr => obtain rfl : n = cap := by omega
                  exact .inl ⟨_, _, rfl⟩
      refine .inr ⟨w.heap.size, n, cap, cur, rfl, .inl h.keep.size, ⟨_, _, hb, .inl ⟨rfl, rfl⟩⟩, hs, hlt, hc, hsz, hat, ?_⟩
      intro o v e
      have e2 : (if w.heap.size = w.heap.size then (cur.toList.take (n * sz))[o]? else g.M w.heap.size o) = some v := e
      rw [if_pos rfl] at e2
      have := (List.getElem?_eq_some_iff.1 e2).1
      simp at this; omega
    · rename_i e'
      obtain ⟨v, e1, e2⟩ := hl'.rows i el' sz' e
      exact ⟨v, by simp only [G.rvAt]; rw [if_neg e']; exact e1, e2⟩
  · exact h.ob_ne
  · intro i j r s u v b e1 e2 hij e3 e4 e5
    simp only [Tb.addRw, lk_cons] at e1 e2
    simp only [G.rvAt] at e3 e4
    split at e1
    · rename_i hi; rw [if_pos hi] at e3; injection e3 with e3; subst e3
      obtain rfl := rowBlock_is e5
      split at e2
      · rename_i hj; omega
      · rename_i hj; rw [if_neg hj] at e4; intro e6; have := h.rw_lt e2 e4 e6; omega
    · rename_i hi; rw [if_neg hi] at e3
      have hlt := h.rw_lt e1 e3 e5
      split at e2
      · rename_i hj; rw [if_pos hj] at e4; injection e4 with e4; subst e4
        intro e6; have := rowBlock_is e6; omega
      · rename_i hj; rw [if_neg hj] at e4; exact h.rw_ne i j r s u v b e1 e2 hij e3 e4 e5
  · intro i j p r b c1 v e1 e2 e3 e4 p1
    simp only [Tb.addRw, lk_cons] at e2
    simp only [G.rvAt] at e4
    have hlt := h.ob_lt e1 e3 p1
    split at e2
    · rename_i hj; rw [if_pos hj] at e4; injection e4 with e4; subst e4
      intro e6; have := rowBlock_is e6; omega
    · rename_i hj; rw [if_neg hj] at e4; exact h.ob_rw i j p r b c1 v e1 e2 e3 e4 p1
  · intro i hi
    simp only [Tb.addRw] at hi
    have := h.fresh i (by omega)
    simp only [G.rvAt]; rw [if_neg (by omega)]; exact this

/-- A list without spare room has all the room that there is. -/
theorem SatW.fullRw (h : SatW w0 M0 F tb g w) (el sz : Nat) (a : Option Addr) (m : Nat) : SatW w0 M0 F (tb.addRw el sz) (g.rvAt tb.nx (.slice a m m)) w := by
  have hle := h.leRv (.slice a m m)
  refine ⟨h.holds, h.keep, h.old, h.mle, fun i p e => ?_, fun i el' sz' e => ?_, h.ob_ne, ?_, ?_, ?_⟩
  · obtain ⟨b, c', e1, hr', h0⟩ := h.boxes i p e
    refine ⟨b, c', e1, fun hc' => ?_, h0⟩
    obtain ⟨cur', e2, e3, e4, e5, e6, e7, e8, e9⟩ := hr' hc'
    exact ⟨cur', e2, e3, e4, e5, e6, e7, e8.mono hle, e9⟩
  · simp only [Tb.addRw, lk_cons] at e
    split at e
    · rename_i e'; subst e'; exact ⟨.slice a m m, by simp [G.rvAt], .inl ⟨a, m, rfl⟩⟩
    · rename_i e'
      obtain ⟨v, e1, e2⟩ := h.rows i el' sz' e
      exact ⟨v, by simp only [G.rvAt]; rw [if_neg e']; exact e1, e2⟩
  · intro i j r s u v b e1 e2 hij e3 e4 e5
    simp only [Tb.addRw, lk_cons] at e1 e2
    simp only [G.rvAt] at e3 e4
    split at e1
    · rename_i hi; rw [if_pos hi] at e3; injection e3 with e3; subst e3; rw [rowBlock_full] at e5; cases e5
    · rename_i hi; rw [if_neg hi] at e3
      split at e2
      · rename_i hj; rw [if_pos hj] at e4; injection e4 with e4; subst e4; rw [rowBlock_full]; exact fun h => by cases h
      · rename_i hj; rw [if_neg hj] at e4; exact h.rw_ne i j r s u v b e1 e2 hij e3 e4 e5
  · intro i j p r b c1 v e1 e2 e3 e4 p1
    simp only [Tb.addRw, lk_cons] at e2
    simp only [G.rvAt] at e4
    split at e2
    · rename_i hj; rw [if_pos hj] at e4; injection e4 with e4; subst e4; rw [rowBlock_full]; exact fun h => by cases h
    · rename_i hj; rw [if_neg hj] at e4; exact h.ob_rw i j p r b c1 v e1 e2 e3 e4 p1
  · intro i hi
    simp only [Tb.addRw] at hi
    have := h.fresh i (by omega)
    simp only [G.rvAt]; rw [if_neg (by omega)]; exact this

theorem setRow_block {b : Nat} {cur' : Array Value} (k : Nat) (h : k ≠ b) : (w.setRow b cur').heap[k]? = w.heap[k]? := setRow_other w b k cur' h

/-- An object is turned, in whatever way. -/
theorem SatW.chgOb (h : SatW w0 M0 F tb g w) {id b c : Nat} {o o' : Ob} {cur cur' : Array Value} (e : lk id tb.bx = some o) (hg : g.ob id = some (b, c)) (hc0 : 0 < c) {tt tt' : TypeId} {fz fz' : Nat × Nat} (hb : w.heap[b]? = some (.cells cur tt fz))
    (ho1 : w'.os = w.os) (ho2 : w'.tape = w.tape) (ho3 : w'.output = w.output) (ho4 : w'.heap.size = w.heap.size) (hblk : ∀ k, k ≠ b → w'.heap[k]? = w.heap[k]?) (hb' : w'.heap[b]? = some (.cells cur' tt' fz'))
    (hs : cur'.size = cur.size) (hel : ObT o.el tt cur.size fz → ObT o'.el tt' cur'.size fz') (hsz : o'.sz = o.sz) (hl : o'.xs.length ≤ cur'.size) (hr : RepVs g (cur'.toList.take o'.xs.length) o'.xs)
    (h1 : ∀ v ∈ cur'.toList, v.oneCell' = true) : SatW w0 M0 F (tb.setOb id o') g w' := by
  obtain ⟨cur0, e2, e3, ⟨tt1, fz1, e4, efz⟩, e5, e6, _⟩ := (h.boxes id o e).real hg hc0
  rw [hb] at e4; injection e4 with e4; injection e4 with e4 e4t e4'; subst e4; subst e4'; subst e4t
  have hne : ∀ i p b' c', lk i tb.bx = some p → i ≠ id → g.ob i = some (b', c') → 0 < c' → b' ≠ b := fun i p b' c' e' hi hg' hp => h.ob_ne i id p o b' c' b c e' e hi hg' hg hp hc0
  refine ⟨⟨fun b' off v em => ?_, h.holds.g⟩, ⟨ho1.trans h.keep.os, ho2.trans h.keep.tape, ho3.trans h.keep.output, by rw [ho4]; exact h.keep.size, fun k hk hf => ?_⟩, h.old, h.mle, fun i p ei => ?_, fun i el sz ei => ?_, ?_, h.rw_ne, ?_, h.fresh⟩
  · have hbb : b' ≠ b := fun hh => by subst hh; rw [e3 off] at em; cases em
    have := World.cell?_of_block (w := w) (w' := w') (a := ⟨b', off, none⟩) (hblk b' hbb)
    rw [this]; exact h.holds b' off v em
  · have hkb : k ≠ b := fun hh => by
      subst hh
      rcases e2 with e2 | e2
      · omega
      · exact hf e2
    rw [hblk k hkb]; exact h.keep.block k hk hf
  · simp only [Tb.setOb, lk_cons] at ei
    split at ei
    · rename_i hi; subst hi; injection ei with ei; subst ei
      exact ⟨b, c, hg, fun _ => ⟨cur', e2, e3, ⟨tt', fz', hb', hel efz⟩, by rw [hs, hsz]; exact e5, e6, hl, hr, h1⟩, fun h0 => by omega⟩
    · rename_i hi
      rw [lk_del, if_neg hi] at ei
      obtain ⟨b1, c1, f1, fr, f0⟩ := h.boxes i p ei
      refine ⟨b1, c1, f1, fun hp => ?_, f0⟩
      obtain ⟨cur1, f2, f3, f4, f5, f6, f7, f8, f9⟩ := fr hp
      exact ⟨cur1, f2, f3, by rw [hblk b1 (hne i p b1 c1 ei hi f1 hp)]; exact f4, f5, f6, f7, f8, f9⟩
  · obtain ⟨v, f1, f2⟩ := h.rows i el sz ei
    refine ⟨v, f1, f2.imp (fun h => h) ?_⟩
    rintro ⟨b1, n, cap, cur1, f3, f4, f5, f6, f7, f8, f9, f10, f11⟩
    have : b1 ≠ b := fun hh => h.ob_rw id i o _ b c v e ei hg f1 hc0 (by subst f3; subst hh; exact rowBlock_lt f7)
    exact ⟨b1, n, cap, cur1, f3, f4, by rw [hblk b1 this]; exact f5, f6, f7, f8, f9, f10, f11⟩
  · intro i j p q b1 c1 b2 c2 ei ej hij
    simp only [Tb.setOb, lk_cons] at ei ej
    have toOld : ∀ i p, (if i = id then some o' else lk i (del id tb.bx)) = some p → ∃ p', lk i tb.bx = some p' := fun i p ei => by
      split at ei
      · rename_i hi; subst hi; exact ⟨o, e⟩
      · rename_i hi; rw [lk_del, if_neg hi] at ei; exact ⟨p, ei⟩
    obtain ⟨p', ep⟩ := toOld i p ei
    obtain ⟨q', eq⟩ := toOld j q ej
    exact h.ob_ne i j p' q' b1 c1 b2 c2 ep eq hij
  · intro i j p r b1 c1 v ei ej
    simp only [Tb.setOb, lk_cons] at ei
    split at ei
    · rename_i hi; subst hi; exact h.ob_rw i j o r b1 c1 v e ej
    · rename_i hi; rw [lk_del, if_neg hi] at ei; exact h.ob_rw i j p r b1 c1 v ei ej

/-- An object is written. -/
theorem SatW.setOb (h : SatW w0 M0 F tb g w) {id b c : Nat} {o o' : Ob} {cur cur' : Array Value} (e : lk id tb.bx = some o) (hg : g.ob id = some (b, c)) (hc0 : 0 < c) {tt : TypeId} {fz : Nat × Nat} (hb : w.heap[b]? = some (.cells cur tt fz))
    (hs : cur'.size = cur.size) (hel : o'.el = o.el) (hsz : o'.sz = o.sz) (hl : o'.xs.length ≤ cur'.size) (hr : RepVs g (cur'.toList.take o'.xs.length) o'.xs)
    (h1 : ∀ v ∈ cur'.toList, v.oneCell' = true) : SatW w0 M0 F (tb.setOb id o') g (w.setRow b cur') := by
  exact h.chgOb e hg hc0 hb rfl rfl rfl (setRow_size _ _ _) (fun k hk => setRow_block k hk) (setRow_heap w b cur cur' tt fz hb) hs (fun q => by rw [hs, hel]; exact q) hsz hl hr h1

/-- A list grows in its own spare room. -/
theorem SatW.growRw (h : SatW w0 M0 F tb g w) {id b n n' cap el sz : Nat} {cur cur' : Array Value} (e : lk id tb.rw = some (el, sz)) (hg : g.rv id = some (.slice (some ⟨b, 0, none⟩) n cap))
    {tt : TypeId} {fz : Nat × Nat} (hb : w.heap[b]? = some (.cells cur tt fz)) (hs : cur'.size = cur.size) (hsame : ∀ j, j < n * sz → cur'[j]? = cur[j]?) (hn : n ≤ n') (hn' : n' ≤ cap) (hlt : n < cap) :
    let N : Mem := fun b' o => if b' = b then (cur'.toList.take (n' * sz))[o]? else g.M b' o
    SatW w0 M0 F ((tb.delRw id).addRw el sz) ((g.with N).rvAt tb.nx (.slice (some ⟨b, 0, none⟩) n' cap)) (w.setRow b cur') ∧ g.M.le N ∧ At N b 0 (cur'.toList.take (n' * sz)) := by
  intro N
  obtain ⟨v, e1, e2⟩ := h.rows id el sz e
  rw [hg] at e1; injection e1 with e1; subst e1
  rcases e2 with ⟨a, m, e2⟩ | ⟨b0, n0, cap0, cur0, e2, e3, ⟨tt', fz', e4, efz⟩, e5, e6, e7, e8, e9, e10⟩
  · injection e2; omega
  injection e2 with e2 e2' e2''; injection e2 with e2; injection e2 with e2; subst e2; subst e2'; subst e2''
  rw [hb] at e4; injection e4 with e4; injection e4 with e4 e4t e4'; subst e4; subst e4'; subst e4t
  have hle : n * sz ≤ n' * sz := Nat.mul_le_mul_right _ hn
  have hbw : (w.setRow b cur').heap[b]? = some (.cells cur' tt fz) := setRow_heap w b cur cur' tt fz hb
  have hM : g.M.le N := fun b' o v em => by
    show (if b' = b then _ else _) = _
    split
    · rename_i hbb; subst hbb
      have ho := e10 o v em
      have hc := h.holds b' o v em
      unfold World.cell? at hc; rw [hb] at hc
      simp only [Option.isSome_none, Bool.false_eq_true, if_false] at hc
      rw [List.getElem?_take, if_pos (by omega)]
      rw [← hsame o ho] at hc; simpa using hc
    · exact em
  have hat : At N b 0 (cur'.toList.take (n' * sz)) := fun j v ej => by show (if b = b then _ else _) = _; rw [if_pos rfl, Nat.zero_add]; exact ej
  have hNo : ∀ b', b' ≠ b → N b' = g.M b' := fun b' hb' => by funext o; show (if b' = b then _ else _) = _; rw [if_neg hb']
  have hle1 : (g.with N).le ((g.with N).rvAt tb.nx (.slice (some ⟨b, 0, none⟩) n' cap)) := ⟨Mem.le_refl _, fun _ _ e => e, fun i p e => by have := h.nx_rv e; simp only [G.rvAt]; rw [if_neg (by omega)]; exact e⟩
  refine ⟨⟨⟨fun b' o v em => ?_, h.holds.g.mono hM⟩, ⟨h.keep.os, h.keep.tape, h.keep.output, by rw [setRow_size]; exact h.keep.size, fun k hk hf => ?_⟩, fun k hk hf => ?_, h.mle.trans hM, fun i p ei => ?_, fun i el' sz' ei => ?_, h.ob_ne, ?_, ?_, ?_⟩, hM, hat⟩
  · by_cases hbb : b' = b
    · subst hbb
      have em' : (cur'.toList.take (n' * sz))[o]? = some v := by
        have e2 : (if b' = b' then (cur'.toList.take (n' * sz))[o]? else g.M b' o) = some v := em
        rwa [if_pos rfl] at e2
      rw [List.getElem?_take] at em'
      split at em'
      · unfold World.cell?; rw [hbw]; simpa using em'
      · cases em'
    · have em' : g.M b' o = some v := by rw [← hNo b' hbb]; exact em
      have := World.cell?_of_block (w := w) (w' := w.setRow b cur') (a := ⟨b', o, none⟩) (setRow_block b' hbb)
      rw [this]; exact h.holds b' o v em'
  · have hkb : k ≠ b := fun hh => by
      subst hh
      rcases e3 with e3 | e3
      · omega
      · exact hf e3
    rw [setRow_block k hkb]; exact h.keep.block k hk hf
  · have hkb : k ≠ b := fun hh => by
      subst hh
      rcases e3 with e3 | e3
      · omega
      · exact hf e3
    show N k = M0 k
    rw [hNo k hkb]; exact h.old k hk hf
  · obtain ⟨b1, c1, f1, fr, f0⟩ := h.boxes i p ei
    refine ⟨b1, c1, f1, fun hp => ?_, f0⟩
    obtain ⟨cur1, f2, f3, f4, f5, f6, f7, f8, f9⟩ := fr hp
    have : b1 ≠ b := fun hh => h.ob_rw i id p _ b1 c1 _ ei e f1 hg hp (by subst hh; exact rowBlock_lt hlt)
    exact ⟨cur1, f2, fun off => by show N b1 off = none; rw [hNo b1 this]; exact f3 off, by rw [setRow_block b1 this]; exact f4, f5, f6, f7, (f8.mono (G.le_with hM)).mono hle1, f9⟩
  · simp only [Tb.addRw, Tb.delRw, lk_cons] at ei
    split at ei
    · rename_i hi; subst hi; injection ei with ei; injection ei with ei1 ei2; subst ei1; subst ei2
      refine ⟨.slice (some ⟨b, 0, none⟩) n' cap, by simp [G.rvAt], ?_⟩
      rcases Nat.lt_or_ge n' cap with hlt' | hge
      case inr => obtain rfl : n' = cap := by omega
                  exact .inl ⟨_, _, rfl⟩
      refine .inr ⟨b, n', cap, cur', rfl, ?_, ⟨tt, fz, hbw, by rw [hs]; exact efz⟩, by rw [hs]; exact e5, hlt', e7, e8, hat, ?_⟩
      · exact e3
      · intro o v em
        have e2 : (if b = b then (cur'.toList.take (n' * sz))[o]? else g.M b o) = some v := em
        rw [if_pos rfl] at e2
        have := (List.getElem?_eq_some_iff.1 e2).1
        simp at this; omega
    · rename_i hi
      rw [lk_del] at ei
      split at ei
      · cases ei
      · rename_i hid
        obtain ⟨v, f1, f2⟩ := h.rows i el' sz' ei
        refine ⟨v, by simp only [G.rvAt]; rw [if_neg hi]; exact f1, f2.imp (fun h => h) ?_⟩
        rintro ⟨b1, n1, cap1, cur1, f3, f4, f5, f6, f7, f8, f9, f10, f11⟩
        have : b1 ≠ b := fun hh => h.rw_ne id i _ _ _ v b e ei (fun hh' => hid hh'.symm) hg f1 (rowBlock_lt hlt) (by subst f3; subst hh; exact rowBlock_lt f7)
        exact ⟨b1, n1, cap1, cur1, f3, f4, by rw [setRow_block b1 this]; exact f5, f6, f7, f8, f9, f10.mono hM, fun o v em => f11 o v (by rw [← hNo b1 this]; exact em)⟩
  · intro i j r s u v b1 ei ej hij e3' e4' e5'
    simp only [Tb.addRw, Tb.delRw, lk_cons, lk_del] at ei ej
    simp only [G.rvAt] at e3' e4'
    split at ei
    · rename_i hi; rw [if_pos hi] at e3'; injection e3' with e3'; subst e3'
      have e5' := rowBlock_is e5'; subst e5'
      split at ej
      · rename_i hj; omega
      · rename_i hj; rw [if_neg hj] at e4'
        split at ej
        · cases ej
        · rename_i hjd; exact h.rw_ne id j _ s _ v _ e ej (fun hh => hjd hh.symm) hg e4' (rowBlock_lt hlt)
    · rename_i hi; rw [if_neg hi] at e3'
      split at ei
      · cases ei
      · rename_i hid
        split at ej
        · rename_i hj; rw [if_pos hj] at e4'; injection e4' with e4'; subst e4'
          intro e6'; obtain rfl := rowBlock_is e6'
          exact h.rw_ne i id r _ u _ _ ei e hid e3' hg e5' (rowBlock_lt hlt)
        · rename_i hj; rw [if_neg hj] at e4'
          split at ej
          · cases ej
          · exact h.rw_ne i j r s u v b1 ei ej hij e3' e4' e5'
  · intro i j p r b1 c1 v ei ej e3' e4' p1
    simp only [Tb.addRw, Tb.delRw, lk_cons, lk_del] at ej
    simp only [G.rvAt] at e4'
    split at ej
    · rename_i hj; rw [if_pos hj] at e4'; injection e4' with e4'; subst e4'
      intro e6'; obtain rfl := rowBlock_is e6'
      exact h.ob_rw i id p _ _ c1 _ ei e e3' hg p1 (rowBlock_lt hlt)
    · rename_i hj; rw [if_neg hj] at e4'
      split at ej
      · cases ej
      · exact h.ob_rw i j p r b1 c1 v ei ej e3' e4' p1
  · intro i hi
    simp only [Tb.addRw, Tb.delRw] at hi
    have := h.fresh i (by omega)
    simp only [G.rvAt]; rw [if_neg (by omega)]; exact this

end
end Go.Av

/-! part AvApp -/
namespace Go.Av
open Go.RowKit

section
variable {P : Program}

/-- what is appended: so many elements, these cells -/
structure Src (P : Program) (u : TypeId) (size : Nat) (x : Value) (m : Nat) (news : List Value) (w : World) : Prop where
  und : (∃ e, P.underlying u = some (.slice e)) ∨ P.underlying u = some .string
  len : (Builtin.lenOf x).run P w = .ok m w
  cells : (Builtin.firstCells size m x).run P w = .ok news.toArray w
  cellsD : (Builtin.firstCells size m x).run P w.drew = .ok news.toArray w.drew
  one : ∀ v ∈ news, v.oneCell' = true
  num : news.length = m * size

/-- 'run_storeCells_at', the row's mark being none or behind the row -/
theorem run_storeCells_atK (P : Program) (g o : Nat) (t : TypeId) (fz : Nat × Nat) : ∀ (vs : List Value) (i : Nat) (cur : Array Value) (w : World), w.heap[g]? = some (.cells cur t fz) → (fz = (0, 0) ∨ cur.size ≤ fz.1) → o + i + vs.length ≤ cur.size → (∀ v ∈ vs, v.oneCell' = true) →
    (storeCells ⟨g, o, none⟩ vs i).run P w = .ok () (w.setRow g (cur.toList.take (o + i) ++ vs ++ cur.toList.drop (o + i + vs.length)).toArray)
  | [], i, cur, w, hg, _, _, _ => by
    simp only [storeCells, List.append_nil, List.length_nil, Nat.add_zero, List.take_append_drop, Array.toArray_toList]
    rw [setRow_self w g cur t fz hg]
    rfl
  | v :: rest, i, cur, w, hg, hfz, hl, h1 => by
    have hi : o + i < cur.size := by simp at hl; omega
    have hadd : (⟨g, o, none⟩ : Addr).add i = ⟨g, o + i, none⟩ := by unfold Addr.add; split <;> simp_all
    have hcell : w.cell? ⟨g, o + i, none⟩ = some cur[o + i] := by simp [World.cell?, hg, hi]
    have hfro : w.frozen? ⟨g, o + i, none⟩ = false := by
      rcases hfz with rfl | hfz
      · simp [World.frozen?, hg]
      · obtain ⟨lo, hi'⟩ := fz
        simp only [World.frozen?, hg, Bool.and_eq_false_iff, decide_eq_false_iff_not]
        left
        simp only at hfz
        omega
    have hst : (store ((⟨g, o, none⟩ : Addr).add i) v).run P w = .ok () (w.setRow g (cur.setIfInBounds (o + i) v)) := by
      rw [hadd, run_store P w _ v _ (h1 v (by simp)), hcell]
      simp [hfro, setCell_eq_setRow w g (o + i) cur t fz v hg]
    have ih := run_storeCells_atK P g o t fz rest (i + 1) (cur.setIfInBounds (o + i) v) (w.setRow g (cur.setIfInBounds (o + i) v)) (setRow_heap w g cur _ t _ hg) (by simpa using hfz) (by simp at hl ⊢; omega) (fun x hx => h1 x (by simp [hx]))
    simp only [storeCells, Sem.run_bind, hst, Result.andThen_ok, ih, setRow_setRow]
    congr 3
    have e := list_seg_step cur.toList (o + i) v rest (by simp at hl ⊢; omega)
    simpa [Array.toList_setIfInBounds, Nat.add_assoc] using e

theorem run_app_room {t u ty e : TypeId} {i : TypeInfo} (ht : P.underlying t = some (.slice e)) (hi : P.info? e = some i) {b sLen sCap m : Nat} {cur : Array Value} {x : Value} {news : List Value} {w : World}
    {tt : TypeId} {fz : Nat × Nat} (hg : w.heap[b]? = some (.cells cur tt fz)) (hfz : fz = (0, 0) ∨ cur.size ≤ fz.1) (hsrc : Src P u i.size x m news w) (hroom : sLen + m ≤ sCap) (hfit : sLen * i.size + news.length ≤ cur.size) :
    (Builtin.append_ #[t, u] ty #[.slice (some ⟨b, 0, none⟩) sLen sCap, x]).run P w =
      .ok (.slice (some ⟨b, 0, none⟩) (sLen + m) sCap) (w.setRow b (cur.toList.take (sLen * i.size) ++ news ++ cur.toList.drop (sLen * i.size + news.length)).toArray) := by
  obtain ⟨hu, hlen, hcells, _, hone, _⟩ := hsrc
  have hst := run_storeCells_atK P b (sLen * i.size) tt fz news 0 cur w hg hfz (by simpa using hfit) hone
  simp only [Nat.add_zero] at hst
  rcases hu with ⟨e', hu⟩ | hu <;> simp [Builtin.append_, run_underlying ht, run_underlying hu, sizeOf, typeInfo, hi, hlen, hroom, hcells, Addr.add_lit, hst]

theorem run_app_grow {t u ty e : TypeId} {i : TypeInfo} {z : Value} (ht : P.underlying t = some (.slice e)) (hi : P.info? e = some i) (hz : i.zero = some z) {s : Value} {a : Option Addr} {sLen sCap m : Nat} {olds : List Value} {x : Value} {news : List Value} {w : World}
    (hs : s = .slice a sLen sCap) (hold : (Builtin.firstCells i.size sLen s).run P w.drew = .ok olds.toArray w.drew) (hsrc : Src P u i.size x m news w) (hroom : sCap < sLen + m) (h63 : sLen + m ≤ 9223372036854775807)
    (hfit : Builtin.nextslicecap (sLen + m) sCap * i.bytes ≤ 281474976710656) :
    (Builtin.append_ #[t, u] ty #[s, x]).run P w =
      .ok (.slice (some ⟨w.heap.size, 0, none⟩) (sLen + m) (grownCap w (sLen + m) sCap e))
        (w.drew.alloc (.cells (olds.toArray ++ news.toArray ++ Builtin.zeroCells z.cells (grownCap w (sLen + m) sCap e - (sLen + m))) e)) := by
  obtain ⟨hu, hlen, hcells, hcellsD, hone, _⟩ := hsrc
  have hn : ¬ (sLen + m ≤ sCap) := by omega
  have h63' : ¬ (9223372036854775807 < ((sLen : Int) + (m : Int))) := by omega
  have h48' : ¬ (281474976710656 < Builtin.nextslicecap (sLen + m) sCap * i.bytes) := by omega
  subst hs
  rcases hu with ⟨e', hu⟩ | hu <;> simp [Builtin.append_, run_underlying ht, run_underlying hu, sizeOf, typeInfo, zeroValue, hi, hz, hlen, hn, h63', h48', Question.forced, hcellsD, hold, newRow, grownCap]
  all_goals (congr 2; apply Array.ext'; simp)

end
end Go.Av

/-! part AvTop -/
namespace Go.Av
open Go.RowKit

/-- In the abstract state the operation answers x and leaves the table tb'. -/
def TYld (P : Program) (st : AS) (o : Oper) (x : AV) (tb' : Tb) : Prop :=
  ∀ (w0 : World) (M0 : Mem) (F : Nat → Prop) (g : G) (a : Act) (w : World), SatW w0 M0 F st.tb g w → (∀ t, Operand.tmp t ∈ o.op.operands → RepV g (a.tmps.getD t undef) (st.sl t)) →
    ∀ (K : Act → World → Prop) (Q : Exit → Act → World → Prop),
      (∀ v w' g', g.le g' → SatW w0 M0 F tb' g' w' → RepV g' v x → K (a.put o.dst v) w') → o.wp P a w K Q

section
variable {P : Program} {st : AS} {o : Oper}

theorem TYld.of_A {x : AV} (h : AYld P st.sl o x) : TYld P st o x st.tb := fun w0 M0 F g a w hw ho K Q hK =>
  h w0 M0 F st.tb g a w hw ho K Q fun v w' N h1 h2 h3 => hK v w' (g.with N) (G.le_with h1) h2 h3

theorem tyld_value {x : AV} {tb' : Tb}
    (h : ∀ (w0 : World) (M0 : Mem) (F : Nat → Prop) (g : G) (a : Act) (w : World), SatW w0 M0 F st.tb g w → (∀ y, y ∈ o.op.operands → RepV g (a.eval y) (evS st.sl y)) →
      ∃ v w' g', (execOp a.eval o).run P w = .ok (.value v) w' ∧ g.le g' ∧ SatW w0 M0 F tb' g' w' ∧ RepV g' v x) : TYld P st o x tb' := by
  intro w0 M0 F g a w hw ho K Q hK
  obtain ⟨v, w', g', hr, h1, h2, h3⟩ := h w0 M0 F g a w hw (fun y hy => repV_ev y fun t e => ho t (e ▸ hy))
  unfold Oper.wp
  rw [hr]
  exact hK v w' g' h1 h2 h3

theorem tyld_skip {tb' : Tb}
    (h : ∀ (w0 : World) (M0 : Mem) (F : Nat → Prop) (g : G) (a : Act) (w : World), SatW w0 M0 F st.tb g w → (∀ y, y ∈ o.op.operands → RepV g (a.eval y) (evS st.sl y)) →
      ∃ w' g', (execOp a.eval o).run P w = .ok .skip w' ∧ g.le g' ∧ SatW w0 M0 F tb' g' w') : TYld P st o .any tb' := by
  intro w0 M0 F g a w hw ho K Q hK
  obtain ⟨w', g', hr, h1, h2⟩ := h w0 M0 F g a w hw (fun y hy => repV_ev y fun t e => ho t (e ▸ hy))
  unfold Oper.wp
  rw [hr]
  exact hK undef w' g' h1 h2 (.any _)

/-- a value's cells -/
def AV.cellsA : AV → Option (List AV)
  | .p (.agg false xs) => some (xs.map .p)
  | .p (.agg true _) => none
  | .agg false xs => some xs
  | .agg true _ => none
  | .any => none
  | x => some [x]

theorem reps_p {g : G} : ∀ {vs : List Value} {xs : List PC}, Reps g.M vs xs → RepVs g vs (xs.map .p)
  | _, _, .nil => .nil
  | _, _, .cons h hs => .cons (.p h) (reps_p hs)

theorem cellsA_rep {g : G} {v : Value} {x : AV} {zs : List AV} (h : RepV g v x) (e : x.cellsA = some zs) : RepVs g v.cells.toList zs ∧ ∀ u ∈ v.cells.toList, u.oneCell' = true := by
  have one : ∀ u : Value, u.oneCell' = true → u.cells = #[u] := fun u hu => by cases u <;> simp_all [Value.cells, Value.oneCell']
  have single : x.cellsA = some [x] → v.oneCell' = true → RepVs g v.cells.toList zs ∧ ∀ u ∈ v.cells.toList, u.oneCell' = true := fun hx h1 => by
    rw [hx] at e; injection e with e; subst e
    rw [one v h1]
    exact ⟨.cons h .nil, by simpa using h1⟩
  cases h with
  | p h1 =>
    rename_i y
    cases y with
    | agg b xs =>
      cases b with
      | true => simp [AV.cellsA] at e
      | false =>
        simp only [AV.cellsA, Option.some.injEq] at e; subst e
        cases h1 with
        | agg hs h2 => exact ⟨by simpa [Value.cells] using reps_p hs, by simpa [Value.cells] using h2⟩
    | _ => exact single rfl (rep_plain h1 rfl).2
  | obj _ => exact single rfl rfl
  | own _ hr => exact single rfl (rep_plain hr rfl).2
  | full hr => exact single rfl rfl
  | nn _ => exact single rfl rfl
  | view _ _ _ _ _ => exact single rfl rfl
  | agg hs h1 => simp only [AV.cellsA, Option.some.injEq] at e; subst e; exact ⟨by simpa [Value.cells] using hs, by simpa [Value.cells] using h1⟩
  | clo _ => exact single rfl rfl
  | ifc _ => exact single rfl rfl
  | tup _ => simp [AV.cellsA] at e
  | any _ => simp [AV.cellsA] at e

theorem RepVs.take {g : G} : ∀ {vs : List Value} {xs : List AV} (n : Nat), RepVs g vs xs → RepVs g (vs.take n) (xs.take n)
  | _, _, 0, _ => by simpa using RepVs.nil
  | _, _, n + 1, .nil => by simpa using RepVs.nil
  | _, _, n + 1, .cons h1 hs => by simpa using RepVs.cons h1 (hs.take n)
theorem RepVs.drop {g : G} : ∀ {vs : List Value} {xs : List AV} (n : Nat), RepVs g vs xs → RepVs g (vs.drop n) (xs.drop n)
  | _, _, 0, h => by simpa using h
  | _, _, n + 1, .nil => by simpa using RepVs.nil
  | _, _, n + 1, .cons h1 hs => by simpa using hs.drop n
theorem RepVs.append {g : G} : ∀ {vs ws : List Value} {xs ys : List AV}, RepVs g vs xs → RepVs g ws ys → RepVs g (vs ++ ws) (xs ++ ys)
  | _, _, _, _, .nil, k => k
  | _, _, _, _, .cons h1 hs, k => .cons h1 (hs.append k)

/-! ### boxes -/

/-- the zero value's cells -/
def zeroC (P : Program) (t : TypeId) : Option (List PC) :=
  match (P.info? t).bind (·.zero) with
  | some z => if z.cells.toList.all (·.oneCell') then some (z.cells.toList.map c1) else none
  | none => none

theorem t_new {el : TypeId} {cs : Array Value} {zs : List AV} {w0 : World} {M0 : Mem} {F : Nat → Prop} {g : G} {w : World} (hw : SatW w0 M0 F st.tb g w) (hr : RepVs g cs.toList zs) (h1 : ∀ u ∈ cs.toList, u.oneCell' = true) :
    SatW w0 M0 F (st.tb.addOb ⟨el, zs.length, zs⟩) (g.obAt st.tb.nx w.heap.size 1) (w.alloc (.cells cs el)) := by
  have hl := hr.length
  have hB : Below w.heap.size w (w.alloc (.cells cs el)) := (Below.refl _ _).alloc (Nat.le_refl _) _
  have ht : cs.toList.take zs.length = cs.toList := List.take_of_length_le (by omega)
  have e1 := hw.newOb (o := ⟨el, zs.length, zs⟩) (cur := cs) (c := 1) hB (heap_alloc_new w _) (by simp at hl; simp [hl]) (by decide) (by simp at hl; simp [hl]) (by rw [ht]; exact hr) h1
  exact e1

theorem t_box {t : TypeId} {x : Operand} {zs : List AV} (ho : o.op = .box t x) (hx : (evS st.sl x).cellsA = some zs) : TYld P st o (.obj st.tb.nx 0) (st.tb.addOb ⟨t, zs.length, zs⟩) :=
  tyld_value fun w0 M0 F g a w hw h => by
    have h1 := h x (by simp [ho, Op.operands])
    obtain ⟨hr, hone⟩ := cellsA_rep h1 hx
    exact ⟨.pointer (some ⟨w.heap.size, 0, none⟩), w.alloc (.cells (a.eval x).cells t), _, by simp [execOp, ho, Instr.box, newVar, newRow], hw.leOb _ _, t_new hw hr hone, .obj (c := 1) (by simp [G.obAt])⟩

theorem t_alloc {t : TypeId} {zs : List PC} (ho : o.op = .alloc t) (hz : zeroC P t = some zs) : TYld P st o (.obj st.tb.nx 0) (st.tb.addOb ⟨t, zs.length, zs.map .p⟩) :=
  tyld_value fun w0 M0 F g a w hw h => by
    unfold zeroC at hz
    split at hz
    · rename_i z hzv
      split at hz
      · rename_i hall
        injection hz with hz; subst hz
        have hall' : ∀ v ∈ z.cells.toList, v.oneCell' = true := List.all_eq_true.1 hall
        have hr : RepVs g z.cells.toList ((z.cells.toList.map c1).map .p) := reps_p (reps_c1 g.M _ hall')
        have hnew := t_new (el := t) hw hr hall'
        rw [List.length_map] at hnew
        refine ⟨.pointer (some ⟨w.heap.size, 0, none⟩), w.alloc (.cells z.cells t), _, ?_, hw.leOb _ _, hnew, .obj (c := 1) (by simp [G.obAt])⟩
        cases hi : P.info? t with
        | none => rw [hi] at hzv; cases hzv
        | some i =>
          rw [hi] at hzv
          have hzv' : i.zero = some z := by simpa using hzv
          simp [execOp, ho, Instr.alloc, zeroValue, typeInfo, hi, hzv', newVar, newRow]
      · cases hz
    · cases hz

/-- a part of an object -/
def partA (off size : Nat) (a : Bool) (xs : List AV) : Option AV :=
  if a then (if off + size ≤ xs.length then some (.agg false ((xs.drop off).take size)) else none) else if size = 1 then xs[off]? else none

theorem t_load {t : TypeId} {x : Operand} {id off s : Nat} {ag : Bool} {ob : Ob} {y : AV} (ho : o.op = .load t x) (hx : evS st.sl x = .obj id off) (hl : lk id st.tb.bx = some ob)
    (ht : tyAgg P t = some ag) (hs : tySize P t = some s) (hp : partA off s ag ob.xs = some y) : TYld P st o y st.tb :=
  tyld_value fun w0 M0 F g a w hw h => by
    have h1 := h x (by simp [ho, Op.operands]); rw [hx] at h1
    generalize hv : a.eval x = v at h1
    cases h1 with
    | obj e =>
      rename_i b c
      have hbox := hw.boxes id ob hl
      by_cases hne : ob.xs = []
      · unfold partA at hp
        rw [hne] at hp
        cases ag with
        | true =>
          simp only [if_true] at hp
          split at hp
          · rename_i hle
            injection hp with hp; subst hp
            simp only [List.length_nil, Nat.le_zero] at hle
            obtain ⟨rfl, rfl⟩ : off = 0 ∧ s = 0 := by omega
            exact ⟨.agg #[], w, g, by simp [execOp, ho, hv, Instr.loadAt, Instr.sureAddr, loadVar, run_isAgg ht, run_sizeOf hs, loadCells, loadCellsFrom], G.le_refl _, hw, by simpa using RepV.agg (g := g) (vs := []) (xs := []) .nil (by simp)⟩
          · cases hp
        | false => simp at hp
      have hcp := hbox.pos e hne
      obtain ⟨cur, f2, f3, ⟨tt, fz, f4, fo⟩, f5, f6, f7, f8, f9⟩ := hbox.real e hcp
      have cell : ∀ j u, cur[j]? = some u → w.cell? ⟨b, j, none⟩ = some u := fun j u e => by unfold World.cell?; rw [f4]; simpa using e
      have hlen := f8.length
      unfold partA at hp
      cases ag with
      | true =>
        simp only [if_true] at hp
        split at hp
        · rename_i hle
          injection hp with hp; subst hp
          have hcl : off + s ≤ cur.toList.length := by simp; omega
          have hls : ((cur.toList.drop off).take s).length = s := by rw [List.length_take, List.length_drop]; omega
          have hrun := run_loadCells_list (P := P) w ⟨b, off, none⟩ ((cur.toList.drop off).take s) (fun j u e => by
            rw [Addr.add_lit]
            rw [List.getElem?_take] at e
            split at e
            · rw [List.getElem?_drop] at e; exact cell _ _ (by simpa using e)
            · cases e)
          rw [hls] at hrun
          have hr2 : RepVs g ((cur.toList.drop off).take s) ((ob.xs.drop off).take s) := by
            have := (f8.drop off).take s
            have e3 : ((cur.toList.take ob.xs.length).drop off).take s = (cur.toList.drop off).take s := by
              rw [List.drop_take, List.take_take, Nat.min_eq_left (by omega)]
            rw [e3] at this; exact this
          refine ⟨.agg ((cur.toList.drop off).take s).toArray, w, g, ?_, G.le_refl _, hw, .agg hr2 (fun u hu => f9 u ?_)⟩
          · simp [execOp, ho, hv, Instr.loadAt, Instr.sureAddr, loadVar, run_isAgg ht, run_sizeOf hs, hrun]
          · have e3 : ((cur.toList.take ob.xs.length).drop off).take s = (cur.toList.drop off).take s := by
              rw [List.drop_take, List.take_take, Nat.min_eq_left (by omega)]
            rw [← e3] at hu
            exact List.mem_of_mem_take (List.mem_of_mem_drop (List.mem_of_mem_take hu))
        · cases hp
      | false =>
        simp only [Bool.false_eq_true, if_false] at hp
        split at hp
        · obtain ⟨u, hu, hr⟩ := f8.get hp
          have hu' : cur[off]? = some u := by
            rw [List.getElem?_take] at hu
            split at hu
            · simpa using hu
            · cases hu
          exact ⟨u, w, g, by simp [execOp, ho, hv, Instr.loadAt, Instr.sureAddr, loadVar, run_isAgg ht, load, Sem.run, cell _ _ hu'], G.le_refl _, hw, hr⟩
        · cases hp

theorem t_store {t : TypeId} {x y : Operand} {id off : Nat} {ob : Ob} {zs : List AV} (ho : o.op = .store t x y) (hx : evS st.sl x = .obj id off) (hl : lk id st.tb.bx = some ob) (hy : (evS st.sl y).cellsA = some zs)
    (hs : tySize P t = some zs.length) (hle : off + zs.length ≤ ob.xs.length) : TYld P st o .any (st.tb.setOb id { ob with xs := ob.xs.take off ++ zs ++ ob.xs.drop (off + zs.length) }) :=
  tyld_skip fun w0 M0 F g a w hw h => by
    have h1 := h x (by simp [ho, Op.operands]); rw [hx] at h1
    obtain ⟨hr, hone⟩ := cellsA_rep (h y (by simp [ho, Op.operands])) hy
    have hlz := hr.length
    generalize hv : a.eval x = v at h1
    generalize hvy : a.eval y = vy at *
    cases h1 with
    | obj e =>
      rename_i b c
      have f1 := e
      have hbox := hw.boxes id ob hl
      by_cases hne : ob.xs = []
      · obtain ⟨rfl, hz⟩ : off = 0 ∧ zs.length = 0 := by rw [hne] at hle; simpa using hle
        have hz0 := List.eq_nil_of_length_eq_zero hz
        subst hz0
        have hvy0 : vy.cells.toList = [] := List.eq_nil_of_length_eq_zero (by simpa using hlz)
        refine ⟨w, g, ?_, G.le_refl _, hw.sub (fun i p e => ?_) (fun _ _ e => e) (Nat.le_refl _)⟩
        · have e4 : vy.cells.size = 0 := by simpa using congrArg List.length hvy0
          simp [execOp, ho, hv, hvy, Instr.storeAt, Instr.sureAddr, storeVar, run_sizeOf hs, e4, hvy0, storeCells]
        · simp only [Tb.setOb, lk_cons] at e
          by_cases hi : i = id
          · rw [if_pos hi] at e; injection e with e; subst e; subst hi
            rw [hl]; cases ob; simp at hne; subst hne; rfl
          · rw [if_neg hi, lk_del, if_neg hi] at e; exact e
      have hcp := hbox.pos e hne
      obtain ⟨cur, f2, f3, ⟨tt, fz, f4, fo⟩, f5, f6, f7, f8, f9⟩ := hbox.real e hcp
      have hlen := f8.length
      have hst := run_storeCells_atK P b off tt fz vy.cells.toList 0 cur w f4 fo.fz (by simp at hlz ⊢; omega) hone
      simp only [Nat.add_zero] at hst
      have hxl : (ob.xs.take off ++ zs ++ ob.xs.drop (off + zs.length)).length = ob.xs.length := by simp; omega
      have hcur : ((cur.toList.take off ++ vy.cells.toList ++ cur.toList.drop (off + vy.cells.toList.length)).toArray).toList.take ob.xs.length =
          (cur.toList.take ob.xs.length).take off ++ vy.cells.toList ++ (cur.toList.take ob.xs.length).drop (off + zs.length) := by
        apply List.ext_getElem?
        intro j
        simp only [List.getElem?_take, List.getElem?_append, List.length_append, List.length_take, List.getElem?_drop, Array.length_toList, hlz]
        have e4 : vy.cells.size = zs.length := by simpa using hlz
        simp only [e4, Array.length_toList] at *
        by_cases h1 : j < ob.xs.length
        · by_cases h2 : j < off
          · have : j < min off cur.size := by omega
            have h3 : j < min off (min ob.xs.length cur.size) := by omega
            simp [h1, h2, this, h3, show j < off + zs.length by omega]
            split <;> split <;> first | rfl | omega | (split <;> first | rfl | omega)
          · by_cases h3 : j < off + zs.length
            · have e5 : min off cur.size = off := by omega
              have e6 : min off (min ob.xs.length cur.size) = off := by omega
              simp [h1, h2, h3, e5, e6]
            · have e5 : min off cur.size = off := by omega
              have e6 : min off (min ob.xs.length cur.size) = off := by omega
              simp [h1, h2, h3, e5, e6, show off + zs.length + (j - (off + zs.length)) = j by omega]
        · have e5 : min off (min ob.xs.length cur.size) = off := by omega
          simp [h1, e5, show ¬ j < off by omega, show ¬ j < off + zs.length by omega, show ¬ off + zs.length + (j - (off + zs.length)) < ob.xs.length by omega]
      refine ⟨w.setRow b (cur.toList.take off ++ vy.cells.toList ++ cur.toList.drop (off + vy.cells.toList.length)).toArray, g, ?_, G.le_refl _, hw.setOb (c := c) hl f1 hcp f4 ?_ rfl rfl ?_ ?_ ?_⟩
      · have e4 : vy.cells.size = zs.length := by simpa using hlz
        simp [execOp, ho, hv, hvy, Instr.storeAt, Instr.sureAddr, storeVar, run_sizeOf hs, e4, hst]
      · simp at hlz ⊢; omega
      · rw [hxl]; simp at hlz ⊢; omega
      · rw [hxl, hcur]
        exact ((f8.take off).append hr).append (f8.drop (off + zs.length))
      · intro u hu
        simp only [List.mem_append] at hu
        rcases hu with (hu | hu) | hu
        · exact f9 u (List.mem_of_mem_take hu)
        · exact hone u hu
        · exact f9 u (List.mem_of_mem_drop hu)

end
end Go.Av

/-! part AvTop2 -/
namespace Go.Av
open Go.RowKit

section
variable {P : Program} {st : AS} {o : Oper}

/-- a slice type's element: the type, its cells, its bytes -/
def elTy (P : Program) (t : TypeId) : Option (TypeId × Nat × Nat) :=
  match P.underlying t with
  | some (.slice e) => match P.info? e with
    | some i => if i.zero.any (fun z => decide (z.cells.size = i.size) && z.cells.toList.all (·.oneCell')) then some (e, i.size, i.bytes) else none
    | none => none
  | _ => none

structure IsSl (M : Mem) (v : Value) (xs : List PC) (a : Option Addr) (cap : Nat) (us : List Value) : Prop where
  hv : v = .slice a xs.length cap
  hcap : xs.length ≤ cap
  hmax : cap ≤ maxLen
  hus : Reps M us xs
  hone : ∀ u ∈ cellsOf us, u.oneCell' = true
  hat : ∀ b, a = some b → (b = ⟨b.block, b.off, none⟩ ∧ At M b.block b.off (cellsOf us)) ∨ cap = 0
  hnil : a = none → cap = 0

theorem isSl_of {M : Mem} {v : Value} {xs : List PC} (h : Rep M v (.sl xs)) : ∃ a cap us, IsSl M v xs a cap us := by
  cases h with
  | nilsl => exact ⟨none, 0, [], rfl, Nat.le_refl _, Nat.zero_le _, .nil, by simp [cellsOf], by simp, fun _ => rfl⟩
  | sl0 a => exact ⟨some a, 0, [], rfl, Nat.le_refl _, Nat.zero_le _, .nil, by simp [cellsOf], fun _ _ => .inr rfl, fun _ => rfl⟩
  | sl hn hc hm hsz hu h1 hat hs =>
    rename_i b off n cap sz us
    have hl := hs.length
    obtain rfl : n = xs.length := by omega
    exact ⟨some ⟨b, off, none⟩, cap, us, rfl, hc, hm, hs, h1, fun b' e => by injection e with e; subst e; exact .inl ⟨rfl, hat⟩, fun e => by cases e⟩

theorem reps_sizes {M : Mem} {sz : Nat} : ∀ {us : List Value} {xs : List PC}, Reps M us xs → (∀ x ∈ xs, x.width = sz) → ∀ u ∈ us, u.cells.size = sz
  | _, _, .nil, _, u, hu => by cases hu
  | _, _, .cons h hs, hw, u, hu => by
    rcases List.mem_cons.1 hu with rfl | hu
    · rw [rep_width h]; exact hw _ (by simp)
    · exact reps_sizes hs (fun x hx => hw x (by simp [hx])) u hu

theorem run_firstCells_at {w : World} {b : Addr} {len cap size n : Nat} {cs : List Value} (hl : cs.length = n * size) (h : ∀ j v, cs[j]? = some v → w.cell? (b.add j) = some v) :
    (Builtin.firstCells size n (.slice (some b) len cap)).run P w = .ok cs.toArray w := run_firstCells_some w size n b len cap cs hl h

theorem firstCells_isSl {M : Mem} {v : Value} {xs : List PC} {a : Option Addr} {cap sz : Nat} {us : List Value} (h : IsSl M v xs a cap us) (hw : ∀ x ∈ xs, x.width = sz) {w : World} (hH : Holds w M) :
    (Builtin.firstCells sz xs.length v).run P w = .ok (cellsOf us).toArray w := by
  have hl := h.hus.length
  have hcl := cellsOf_length us (reps_sizes h.hus hw)
  rw [h.hv]
  cases a with
  | none =>
    have hc := h.hnil rfl
    have hx := h.hcap
    have : xs = [] := List.eq_nil_of_length_eq_zero (by omega)
    subst this
    have : us = [] := List.eq_nil_of_length_eq_zero (by simpa using hl)
    subst this
    simp [run_firstCells_none, cellsOf]
  | some b =>
    rcases h.hat b rfl with ⟨e, hat⟩ | hc0
    case inr =>
      have hx := h.hcap
      have hu0 : us = [] := List.eq_nil_of_length_eq_zero (by omega)
      have hx0 : xs = [] := List.eq_nil_of_length_eq_zero (by omega)
      subst hu0; subst hx0
      exact run_firstCells_at (n := 0) (by simp [cellsOf]) fun j u hj => by simp [cellsOf] at hj
    refine run_firstCells_at (by rw [hcl, hl]) fun j u hj => ?_
    rw [e, Addr.add_lit]; exact hH _ _ _ (hat j u hj)

/-- a list that lasts, to be appended -/
theorem src_isSl {M : Mem} {v : Value} {xs : List PC} {a : Option Addr} {cap sz : Nat} {us : List Value} {u : TypeId} (hu : (elSize P u).isSome = true) (h : IsSl M v xs a cap us) (hw : ∀ x ∈ xs, x.width = sz) {w : World} (hH : Holds w M) :
    Src P u sz v xs.length (cellsOf us) w := by
  have hl := h.hus.length
  have hcl := cellsOf_length us (reps_sizes h.hus hw)
  refine ⟨.inl ?_, ?_, firstCells_isSl h hw hH, firstCells_isSl h hw ⟨fun b o v e => hH b o v e, hH.g⟩, h.hone, by rw [hcl, hl]⟩
  · obtain ⟨s, hs⟩ := Option.isSome_iff_exists.1 hu
    unfold elSize at hs
    split at hs
    · rename_i e he; exact ⟨e, he⟩
    · cases hs
  · rw [h.hv]; rfl

/-- a text's octets, to be appended -/
theorem src_str {s : ByteArray} {u : TypeId} (hu : isStr P u = true) {w : World} : Src P u 1 (.string s) (bs s).length ((bs s).map fun b => Value.int .u8 b.toNat) w := by
  have hf : ∀ w : World, (Builtin.firstCells 1 (bs s).length (.string s)).run P w = .ok ((bs s).map fun b => Value.int .u8 b.toNat).toArray w := fun w => by
    simp only [Builtin.firstCells, Sem.run_pure]
    congr 1
    rw [bs_size]
    apply Array.ext'
    simp [bs]
  exact ⟨.inr (str_of hu), by simp [Builtin.lenOf, bs_size], hf w, hf _, by simp [Value.oneCell'], by simp⟩

theorem run_append2 {c : Call} {x y : Operand} {t u : TypeId} (ho : o.op = .call c) (hc : c.callee = .builtin .append) (ha : c.args = #[x, y]) (ht : c.argTypes = #[t, u]) (a : Act) (w : World) :
    (execOp a.eval o).run P w = ((Builtin.append_ #[t, u] o.type #[a.eval x, a.eval y]).run P w).andThen fun v w => .ok (.value v) w := by
  simp only [execOp, ho, resolve, hc, ha, ht, Sem.run_bind, Sem.run_pure, Result.andThen_ok, invoke, builtin, List.map_toArray, List.map_cons, List.map_nil]

theorem cellsOf_append (us vs : List Value) : cellsOf (us ++ vs) = cellsOf us ++ cellsOf vs := by simp [cellsOf]

theorem elTy_spec {t e : TypeId} {sz by_ : Nat} (h : elTy P t = some (e, sz, by_)) : P.underlying t = some (.slice e) ∧ ∃ i z, P.info? e = some i ∧ i.zero = some z ∧ i.size = sz ∧ i.bytes = by_ ∧ z.cells.size = sz := by
  unfold elTy at h
  split at h
  · rename_i e' he
    split at h
    · rename_i i hi
      split at h
      · rename_i hz
        injection h with h
        obtain ⟨rfl, rfl, rfl⟩ := by simpa using h
        cases hzz : i.zero with
        | none => rw [hzz] at hz; simp at hz
        | some z => rw [hzz] at hz; simp only [Option.any_some, Bool.and_eq_true, decide_eq_true_eq] at hz; exact ⟨he, i, z, hi, hzz, rfl, rfl, hz.1⟩
      · cases h
    · cases h
  · cases h

theorem elTy_one {t e : TypeId} {sz by_ : Nat} (h : elTy P t = some (e, sz, by_)) {i : TypeInfo} {z : Value} (hi : P.info? e = some i) (hz : i.zero = some z) : ∀ v ∈ z.cells.toList, v.oneCell' = true := by
  unfold elTy at h
  split at h
  · split at h
    · rename_i j hj
      split at h
      · rename_i hzz
        injection h with h
        obtain ⟨rfl, rfl, rfl⟩ := by simpa using h
        rw [hj] at hi; injection hi with hi; subst hi
        rw [hz] at hzz
        simp only [Option.any_some, Bool.and_eq_true, decide_eq_true_eq] at hzz
        exact fun v hv => List.all_eq_true.1 hzz.2 v hv
      · cases h
    · cases h
  · cases h

theorem run_app_zero {t u ty e : TypeId} {i : TypeInfo} (ht : P.underlying t = some (.slice e)) (hi : P.info? e = some i) {a : Option Addr} {n cap : Nat} {x : Value} {w : World} (hsrc : Src P u i.size x 0 [] w) (hn : n ≤ cap) :
    (Builtin.append_ #[t, u] ty #[.slice a n cap, x]).run P w = .ok (.slice a n cap) w := by
  obtain ⟨hu, hlen, hcells, _, _, _⟩ := hsrc
  rcases hu with ⟨e', hu⟩ | hu <;> cases a <;> simp [Builtin.append_, run_underlying ht, run_underlying hu, sizeOf, typeInfo, hi, hlen, hn, hcells, storeCells]

/-- the table behind an append -/
def appTb (tb : Tb) (rid : Option Nat) (e : TypeId) (sz : Nat) : Tb := ⟨tb.bx, (tb.nx, e, sz) :: (match rid with | some id => del id tb.rw | none => tb.rw), tb.nx + 1⟩

/-- WHAT append LEAVES, of a list whose spare room is the call's own. -/
theorem app_core {w0 : World} {M0 : Mem} {F : Nat → Prop} {tb : Tb} {g : G} {w : World} (hw : SatW w0 M0 F tb g w) {t u ty e : TypeId} {sz by_ : Nat} (ht : elTy P t = some (e, sz, by_)) (hsz : 0 < sz)
    {v y : Value} {xs ys : List PC} {us' : List Value} {a : Option Addr} {cap : Nat} {us : List Value} (hv : IsSl g.M v xs a cap us) (hxw : ∀ x ∈ xs, x.width = sz) (hyw : ∀ x ∈ ys, x.width = sz)
    (hys : Reps g.M us' ys) (hsrc : Src P u sz y ys.length (cellsOf us') w) (hbound : (xs.length + ys.length) * by_ ≤ 140737488355328) (hmax : xs.length + ys.length ≤ 9223372036854775807)
    {rid : Option Nat} (hright : match rid with | none => ∃ m, v = .slice a m m | some id => lk id tb.rw = some (e, sz) ∧ g.rv id = some v) :
    ∃ v' w' g', (Builtin.append_ #[t, u] ty #[v, y]).run P w = .ok v' w' ∧ g.le g' ∧ SatW w0 M0 F (appTb tb rid e sz) g' w' ∧ RepV g' v' (.own tb.nx (xs ++ ys)) := by
  have toApp : ∀ {g' : G} {w' : World}, SatW w0 M0 F (tb.addRw e sz) g' w' → SatW w0 M0 F (appTb tb rid e sz) g' w' := fun h =>
    h.sub (fun _ _ e => e) (fun i r er => by
      simp only [appTb, Tb.addRw, lk_cons] at er ⊢
      split at er
      · rename_i hi; rw [if_pos hi]; exact er
      · rename_i hi; rw [if_neg hi]
        cases rid with
        | none => exact er
        | some id => simp only [lk_del] at er; split at er; cases er; exact er) (Nat.le_refl _)
  obtain ⟨hU, i, z, hi, hz, hisz, hiby, hzs⟩ := elTy_spec ht
  subst hisz
  have hlu := hv.hus.length
  have hly := hys.length
  have hcx := cellsOf_length us (reps_sizes hv.hus hxw)
  have hcy := cellsOf_length us' (reps_sizes hys hyw)
  have hallw : ∀ x ∈ us ++ us', x.cells.size = i.size := fun x hx => by
    rcases List.mem_append.1 hx with hx | hx
    · exact reps_sizes hv.hus hxw x hx
    · exact reps_sizes hys hyw x hx
  have hone : ∀ x ∈ cellsOf (us ++ us'), x.oneCell' = true := fun x hx => by
    rw [cellsOf_append] at hx
    rcases List.mem_append.1 hx with hx | hx
    · exact hv.hone x hx
    · exact hsrc.one x hx
  have hreps : ∀ {N : Mem}, g.M.le N → Reps N (us ++ us') (xs ++ ys) := fun h => (hv.hus.mono h).append (hys.mono h)
  have hlen2 : (xs ++ ys).length = xs.length + ys.length := List.length_append
  have hcell2 : (cellsOf (us ++ us')).length = (xs.length + ys.length) * i.size := by rw [cellsOf_length _ hallw]; simp; rw [hlu, hly]
  have hvv := hv.hv
  rcases Nat.lt_or_ge cap (xs.length + ys.length) with hgrow | hroom
  · -- a new array
    have hfit : Builtin.nextslicecap (xs.length + ys.length) cap * i.bytes ≤ 281474976710656 := growslice_fits hgrow (by rw [hiby]; exact hbound)
    have hold := firstCells_isSl (P := P) hv hxw (w := w.drew) ⟨fun b o v e => hw.holds b o v e, hw.holds.g⟩
    have hrun := run_app_grow (P := P) (ty := ty) hU hi hz hvv hold hsrc hgrow hmax hfit
    have hge := grownCap_ge w (xs.length + ys.length) cap e
    have hcm := grownCap_le_maxLen w (xs.length + ys.length) cap e (by unfold maxLen; omega)
    generalize grownCap w (xs.length + ys.length) cap e = C at *
    have hcur : ((cellsOf us).toArray ++ (cellsOf us').toArray ++ Builtin.zeroCells z.cells (C - (xs.length + ys.length))).size = C * i.size := by
      simp only [Array.size_append, List.size_toArray, size_zeroCells, hcx, hcy, hzs, hlu, hly]
      rw [← Nat.add_mul, ← Nat.add_mul]; congr 1; omega
    have hB : Below w.drew.heap.size w.drew (w.drew.alloc (.cells ((cellsOf us).toArray ++ (cellsOf us').toArray ++ Builtin.zeroCells z.cells (C - (xs.length + ys.length))) e)) := (Below.refl _ _).alloc (Nat.le_refl _) _
    obtain ⟨hs, hM, hat⟩ := hw.drew.newRw (el := e) (sz := i.size) (n := xs.length + ys.length) (cap := C) hB (heap_alloc_new w.drew _) hcur hge hcm hsz
    have htake : ((cellsOf us).toArray ++ (cellsOf us').toArray ++ Builtin.zeroCells z.cells (C - (xs.length + ys.length))).toList.take ((xs.length + ys.length) * i.size) = cellsOf (us ++ us') := by
      rw [← hcell2, cellsOf_append]
      simp only [Array.toList_append, List.length_append]
      rw [List.take_append_of_le_length (by simp)]
      exact List.take_of_length_le (by simp)
    rw [htake] at hs hM hat
    have hle := hw.drew.leRv (.slice (some ⟨w.heap.size, 0, none⟩) (xs.length + ys.length) C)
    refine ⟨.slice (some ⟨w.heap.size, 0, none⟩) (xs.length + ys.length) C, _, (g.with (g.M.ext w.heap.size (cellsOf (us ++ us')))).rvAt tb.nx (.slice (some ⟨w.heap.size, 0, none⟩) (xs.length + ys.length) C), hrun,
      (G.le_with hM).trans ⟨Mem.le_refl _, fun _ _ e => e, fun j p ej => ?_⟩, toApp hs, .own (by simp [G.rvAt]) ?_⟩
    · have := hw.nx_rv ej; simp only [G.rvAt]; rw [if_neg (by omega)]; exact ej
    · exact .sl (sz := i.size) (by simp; omega) (by omega) hcm hsz hallw hone hat (hreps hM)
  · cases rid with
    | none =>
      obtain ⟨m, hfull⟩ := hright
      -- nothing is appended
      rw [hvv] at hfull
      injection hfull with _ e1 e2
      have e3 : xs.length = cap := by omega
      have hy0 : ys = [] := List.eq_nil_of_length_eq_zero (by omega)
      subst hy0
      have hu0 : us' = [] := List.eq_nil_of_length_eq_zero (by simpa using hly)
      subst hu0
      have hrun := run_app_zero (P := P) (ty := ty) (n := xs.length) (cap := cap) (a := a) hU hi (by simpa [cellsOf] using hsrc) hv.hcap
      rw [← hvv] at hrun
      have hs := hw.fullRw e i.size a cap
      have hvc : v = .slice a cap cap := by rw [hvv, e3]
      rw [← hvc] at hs
      refine ⟨v, w, _, hrun, hw.leRv v, toApp hs, .own (by simp [G.rvAt]) ?_⟩
      · rw [List.append_nil]
        show Rep g.M v (.sl xs)
        rw [hvv]
        cases a with
        | none =>
          have hx := hv.hnil rfl
          have := hv.hcap
          have : xs = [] := List.eq_nil_of_length_eq_zero (by omega)
          subst this
          rw [hx]; exact .nilsl
        | some b =>
          rcases hv.hat b rfl with ⟨eb, hat⟩ | hc0
          case inr =>
            have := hv.hcap
            have : xs = [] := List.eq_nil_of_length_eq_zero (by omega)
            subst this
            rw [hc0]; exact .sl0 b
          rw [eb]
          exact .sl (sz := i.size) (by omega) hv.hcap hv.hmax hsz (reps_sizes hv.hus hxw) hv.hone hat hv.hus
    | some id =>
      obtain ⟨hid, hrv⟩ := hright
      obtain ⟨v0, f1, f2⟩ := hw.rows id e i.size hid
      rw [hrv] at f1; injection f1 with f1; subst f1
      rcases f2 with ⟨a', m, hfull⟩ | ⟨b, n, cap', cur, f3, f4, ⟨tt, fz, f5, fo⟩, f6, f7, f8, f9, f10, f11⟩
      · -- nothing is appended
        rw [hvv] at hfull
        injection hfull with e0 e1 e2
        have e3 : xs.length = cap := by omega
        have hy0 : ys = [] := List.eq_nil_of_length_eq_zero (by omega)
        subst hy0
        have hu0 : us' = [] := List.eq_nil_of_length_eq_zero (by simpa using hly)
        subst hu0
        have hrun := run_app_zero (P := P) (ty := ty) (n := xs.length) (cap := cap) (a := a) hU hi (by simpa [cellsOf] using hsrc) hv.hcap
        rw [← hvv] at hrun
        have hs := hw.fullRw e i.size a cap
        have hvc : v = .slice a cap cap := by rw [hvv, e3]
        rw [← hvc] at hs
        refine ⟨v, w, _, hrun, hw.leRv v, toApp hs, .own (by simp [G.rvAt]) ?_⟩
        · rw [List.append_nil]
          show Rep g.M v (.sl xs)
          rw [hvv]
          cases a with
          | none =>
            have hx := hv.hnil rfl
            have := hv.hcap
            have : xs = [] := List.eq_nil_of_length_eq_zero (by omega)
            subst this
            rw [hx]; exact .nilsl
          | some b =>
            rcases hv.hat b rfl with ⟨eb, hat⟩ | hc0
            case inr =>
              have := hv.hcap
              have : xs = [] := List.eq_nil_of_length_eq_zero (by omega)
              subst this
              rw [hc0]; exact .sl0 b
            rw [eb]
            exact .sl (sz := i.size) (by omega) hv.hcap hv.hmax hsz (reps_sizes hv.hus hxw) hv.hone hat hv.hus
      · -- into the spare room
        rw [hvv] at f3
        injection f3 with e0 e1 e2; subst e1; subst e2; subst e0
        have hat0 : At g.M b 0 (cellsOf us) := by
          rcases hv.hat _ rfl with ⟨_, h⟩ | hc0
          · exact h
          · have := hv.hcap
            have hu0 : us = [] := List.eq_nil_of_length_eq_zero (by omega)
            subst hu0
            exact fun j v e => by simp [cellsOf] at e
        have hcurx : cur.toList.take (xs.length * i.size) = cellsOf us := by
          apply List.ext_getElem?
          intro j
          rw [List.getElem?_take]
          split
          · rename_i hj
            have hj' : j < (cellsOf us).length := by rw [hcx, hlu]; exact hj
            have h1 := hw.holds _ _ _ (hat0 j _ (List.getElem?_eq_getElem hj'))
            unfold World.cell? at h1; rw [f5] at h1
            simp only [Option.isSome_none, Bool.false_eq_true, if_false, Nat.zero_add] at h1
            rw [List.getElem?_eq_getElem hj', ← h1]; simp
          · rename_i hj
            symm; rw [List.getElem?_eq_none_iff]; rw [hcx, hlu]; omega
        have hfit : xs.length * i.size + (cellsOf us').length ≤ cur.size := by rw [hcy, hly, f6, ← Nat.add_mul]; exact Nat.mul_le_mul_right _ hroom
        have hrun := run_app_room (P := P) (ty := ty) hU hi (sLen := xs.length) (sCap := cap) f5 fo.fz hsrc hroom hfit
        rw [← hvv] at hrun
        generalize hcur' : (cur.toList.take (xs.length * i.size) ++ cellsOf us' ++ cur.toList.drop (xs.length * i.size + (cellsOf us').length)).toArray = cur' at hrun
        have hsize : cur'.size = cur.size := by
          rw [← hcur']; simp only [List.size_toArray, List.length_append, List.length_take, List.length_drop, Array.length_toList]; omega
        have hxl : (cur.toList.take (xs.length * i.size)).length = xs.length * i.size := by rw [hcurx, hcx, hlu]
        have htake : cur'.toList.take ((xs.length + ys.length) * i.size) = cellsOf (us ++ us') := by
          rw [← hcell2, cellsOf_append, ← hcur', hcurx]
          simp only [List.length_append]
          rw [List.take_append_of_le_length (by simp)]
          exact List.take_of_length_le (by simp)
        have hsame : ∀ j, j < xs.length * i.size → cur'[j]? = cur[j]? := fun j hj => by
          rw [← hcur', List.getElem?_toArray, List.append_assoc, List.getElem?_append_left (by rw [hxl]; exact hj), List.getElem?_take, if_pos hj]; simp
        rw [hvv] at hrv
        obtain ⟨hs, hM, hat⟩ := hw.growRw (n' := xs.length + ys.length) hid hrv f5 hsize hsame (by omega) hroom f7
        rw [htake] at hs hM hat
        refine ⟨_, _, (g.with fun b' o => if b' = b then (cellsOf (us ++ us'))[o]? else g.M b' o).rvAt tb.nx (.slice (some ⟨b, 0, none⟩) (xs.length + ys.length) cap), hrun, (G.le_with hM).trans ⟨Mem.le_refl _, fun _ _ e => e, fun j p ej => ?_⟩, hs, .own (v := .slice (some ⟨b, 0, none⟩) (xs.length + ys.length) cap) (by simp [G.rvAt]) ?_⟩
        · have := hw.nx_rv ej; simp only [G.rvAt]; rw [if_neg (by omega)]; exact ej
        · exact .sl (sz := i.size) (by simp; omega) (by omega) f8 hsz hallw hone hat (hreps hM)

/-- append, onto a list of the call's own, or one without spare room. -/
theorem t_append {c : Call} {x y : Operand} {t u e : TypeId} {sz by_ : Nat} {xs ys : List PC} {rid : Option Nat} (ho : o.op = .call c) (hc : c.callee = .builtin .append) (ha : c.args = #[x, y]) (hts : c.argTypes = #[t, u])
    (ht : elTy P t = some (e, sz, by_)) (hsz : 0 < sz) (hu : (elSize P u).isSome = true) (hxw : ∀ x ∈ xs, x.width = sz) (hyw : ∀ x ∈ ys, x.width = sz) (hbound : (xs.length + ys.length) * by_ ≤ 140737488355328)
    (hmax : xs.length + ys.length ≤ 9223372036854775807) (hy : (evS st.sl y).nm = .p (.sl ys) ∨ ys = [] ∧ (evS st.sl y).nm = .p .nil)
    (hx : match rid with | none => evS st.sl x = .full xs ∨ xs = [] ∧ evS st.sl x = .p .nil | some id => evS st.sl x = .own id xs ∧ lk id st.tb.rw = some (e, sz)) :
    TYld P st o (.own st.tb.nx (xs ++ ys)) (appTb st.tb rid e sz) :=
  tyld_value fun w0 M0 F g a w hw h => by
    have h1 := h x (by rw [ho]; simp [Op.operands, Call.operands, hc, ha])
    have h2 := repV_nm (h y (by rw [ho]; simp [Op.operands, Call.operands, hc, ha]))
    have hys : Rep g.M (a.eval y) (.sl ys) := by
      rcases hy with hy | ⟨rfl, hy⟩
      · rw [hy] at h2; exact repV_p h2
      · rw [hy] at h2
        have := repV_p h2
        generalize a.eval y = v at this
        cases this; exact .nilsl
    obtain ⟨a', cap', us', hsl'⟩ := isSl_of hys
    have hsrc := src_isSl (u := u) hu hsl' hyw hw.holds
    cases rid with
    | none =>
      simp only at hx
      have hxx : ∃ ad m, a.eval x = .slice ad m m ∧ Rep g.M (a.eval x) (.sl xs) := by
        rcases hx with hx | ⟨rfl, hx⟩
        · rw [hx] at h1
          generalize a.eval x = v at h1
          cases h1 with
          | full hr => exact ⟨_, _, rfl, hr⟩
        · rw [hx] at h1
          have := repV_p h1
          generalize a.eval x = v at this
          cases this; exact ⟨none, 0, rfl, .nilsl⟩
      obtain ⟨ad, m, em, hr⟩ := hxx
      obtain ⟨a1, cap1, us1, hsl1⟩ := isSl_of hr
      obtain ⟨v', w', g', hrun, hle, hs, hv⟩ := app_core (P := P) (ty := o.type) hw ht hsz hsl1 hxw hyw hsl'.hus hsrc hbound hmax (rid := none) ⟨m, by
        have := hsl1.hv; rw [em] at this; injection this with q1 q2 q3; subst q1; exact em⟩
      exact ⟨v', w', g', by rw [run_append2 ho hc ha hts, hrun]; rfl, hle, hs, hv⟩
    | some id =>
      obtain ⟨hx, hid⟩ := hx
      rw [hx] at h1
      generalize hvx : a.eval x = v at h1
      cases h1 with
      | own hrv hr =>
        obtain ⟨a1, cap1, us1, hsl1⟩ := isSl_of hr
        obtain ⟨v', w', g', hrun, hle, hs, hv⟩ := app_core (P := P) (ty := o.type) hw ht hsz hsl1 hxw hyw hsl'.hus hsrc hbound hmax (rid := some id) ⟨hid, hrv⟩
        exact ⟨v', w', g', by rw [run_append2 ho hc ha hts, hvx, hrun]; rfl, hle, hs, hv⟩

/-- .. of a text's octets. -/
theorem t_appendS {c : Call} {x y : Operand} {t u e : TypeId} {by_ : Nat} {xs : List PC} {s : ByteArray} {rid : Option Nat} (ho : o.op = .call c) (hc : c.callee = .builtin .append) (ha : c.args = #[x, y]) (hts : c.argTypes = #[t, u])
    (ht : elTy P t = some (e, 1, by_)) (hu : isStr P u = true) (hxw : ∀ x ∈ xs, x.width = 1) (hbound : (xs.length + (bs s).length) * by_ ≤ 140737488355328)
    (hmax : xs.length + (bs s).length ≤ 9223372036854775807) (hy : (evS st.sl y).nm = .p (.sc (.string s)))
    (hx : match rid with | none => evS st.sl x = .full xs ∨ xs = [] ∧ evS st.sl x = .p .nil | some id => evS st.sl x = .own id xs ∧ lk id st.tb.rw = some (e, 1)) :
    TYld P st o (.own st.tb.nx (xs ++ bytesPC (bs s))) (appTb st.tb rid e 1) :=
  tyld_value fun w0 M0 F g a w hw h => by
    have h1 := h x (by rw [ho]; simp [Op.operands, Call.operands, hc, ha])
    have h2 := repV_nm (h y (by rw [ho]; simp [Op.operands, Call.operands, hc, ha]))
    rw [hy] at h2
    have h2 := y_nil_sc h2
    have hyw : ∀ x ∈ bytesPC (bs s), x.width = 1 := by simp [bytesPC, PC.width]
    have hlen : (bytesPC (bs s)).length = (bs s).length := by simp [bytesPC]
    have hsrc := src_str (P := P) (s := s) (u := u) hu (w := w)
    have hsrc' : Src P u 1 (a.eval y) (bytesPC (bs s)).length (cellsOf ((bs s).map fun b => Value.int .u8 b.toNat)) w := by
      rw [h2, hlen, cellsOf_bytes]; exact hsrc
    cases rid with
    | none =>
      simp only at hx
      have hxx : ∃ ad m, a.eval x = .slice ad m m ∧ Rep g.M (a.eval x) (.sl xs) := by
        rcases hx with hx | ⟨rfl, hx⟩
        · rw [hx] at h1
          generalize a.eval x = v at h1
          cases h1 with
          | full hr => exact ⟨_, _, rfl, hr⟩
        · rw [hx] at h1
          have := repV_p h1
          generalize a.eval x = v at this
          cases this; exact ⟨none, 0, rfl, .nilsl⟩
      obtain ⟨ad, m, em, hr⟩ := hxx
      obtain ⟨a1, cap1, us1, hsl1⟩ := isSl_of hr
      obtain ⟨v', w', g', hrun, hle, hs, hv⟩ := app_core (P := P) (ty := o.type) hw ht (by decide) hsl1 hxw hyw (reps_bytes g.M (bs s)) hsrc' (by rw [hlen]; exact hbound) (by rw [hlen]; exact hmax) (rid := none) ⟨m, by
        have := hsl1.hv; rw [em] at this; injection this with q1 q2 q3; subst q1; exact em⟩
      exact ⟨v', w', g', by rw [run_append2 ho hc ha hts, hrun]; rfl, hle, hs, hv⟩
    | some id =>
      obtain ⟨hx, hid⟩ := hx
      rw [hx] at h1
      generalize hvx : a.eval x = v at h1
      cases h1 with
      | own hrv hr =>
        obtain ⟨a1, cap1, us1, hsl1⟩ := isSl_of hr
        obtain ⟨v', w', g', hrun, hle, hs, hv⟩ := app_core (P := P) (ty := o.type) hw ht (by decide) hsl1 hxw hyw (reps_bytes g.M (bs s)) hsrc' (by rw [hlen]; exact hbound) (by rw [hlen]; exact hmax) (rid := some id) ⟨hid, hrv⟩
        exact ⟨v', w', g', by rw [run_append2 ho hc ha hts, hvx, hrun]; rfl, hle, hs, hv⟩

end
end Go.Av

/-! part AvTop3 -/
namespace Go.Av
open Go.RowKit

theorem foldl_set (zs : List Value) : ∀ (k off : Nat) (cs : Array Value), off + k + zs.length ≤ cs.size →
    ((zs.zipIdx k).foldl (fun cs (p : Value × Nat) => cs.setIfInBounds (off + p.2) p.1) cs).toList = cs.toList.take (off + k) ++ zs ++ cs.toList.drop (off + k + zs.length) := by
  induction zs with
  | nil => intro k off cs h; simp
  | cons z zs ih =>
    intro k off cs h
    simp only [List.length_cons] at h
    simp only [List.zipIdx_cons, List.foldl_cons]
    rw [ih (k + 1) off (cs.setIfInBounds (off + k) z) (by simp; omega)]
    rw [Array.toList_setIfInBounds]
    rw [show off + (k + 1) = off + k + 1 by omega]
    rw [List.take_set, List.drop_set_of_lt (by omega)]
    have h1 : (cs.toList.take (off + k + 1)).set (off + k) z = cs.toList.take (off + k) ++ [z] := by
      have : off + k < cs.toList.length := by simp; omega
      rw [List.take_succ_eq_append_getElem this]
      rw [List.set_append_right _ _ (by simp; omega)]
      have : off + k - (cs.toList.take (off + k)).length = 0 := by simp; omega
      rw [this]; rfl

    rw [h1]
    simp only [List.append_assoc, List.cons_append, List.nil_append, List.length_cons]
    rw [show off + k + 1 + zs.length = off + k + (zs.length + 1) by omega]


section
variable {P : Program} {st : AS} {o : Oper}

/-- where a part goes: its place, its cells -/
def placeP (P : Program) (t : TypeId) (i : Nat) : Option (Nat × Nat) :=
  match P.underlying t with
  | some (.struct fs) => match fs[i]? with
    | some f => match tySize P f.type with
      | some s => some (f.offset, s)
      | none => none
    | none => none
  | some (.array _ e) => match tySize P e with
    | some s => some (i * s, s)
    | none => none
  | some (.slice e) => match tySize P e with
    | some s => some (i * s, s)
    | none => none
  | _ => none

def fillA (P : Program) (t : TypeId) : List AV → List (Nat × AV) → Option (List AV)
  | cs, [] => some cs
  | cs, (i, v) :: rest => match placeP P t i, v.cellsA with
    | some (off, s), some zs => if zs.length = s ∧ off + s ≤ cs.length then fillA P t (cs.take off ++ zs ++ cs.drop (off + s)) rest else none
    | _, _ => none

theorem fill_rep {t : TypeId} {g : G} {place : Nat → Option (Nat × Nat)} (hp : ∀ i q, placeP P t i = some q → place i = some q) : ∀ (parts : List (Nat × Value)) (ps : List (Nat × AV)) (cs : Array Value) (xs zs : List AV),
    RepVs g cs.toList xs → (∀ u ∈ cs.toList, u.oneCell' = true) → parts.map (·.1) = ps.map (·.1) → RepVs g (parts.map (·.2)) (ps.map (·.2)) → fillA P t xs ps = some zs →
    ∃ ds, Instr.fill place cs parts = some ds ∧ RepVs g ds.toList zs ∧ (∀ u ∈ ds.toList, u.oneCell' = true)
  | [], [], cs, xs, zs, h1, h2, _, _, hf => by simp only [fillA, Option.some.injEq] at hf; subst hf; exact ⟨cs, rfl, h1, h2⟩
  | [], _ :: _, _, _, _, _, _, hm, _, _ => by simp at hm
  | _ :: _, [], _, _, _, _, _, hm, _, _ => by simp at hm
  | (i, v) :: parts, (i', x) :: ps, cs, xs, zs, h1, h2, hm, hr, hf => by
    simp only [List.map_cons, List.cons.injEq] at hm hr
    obtain ⟨rfl, hm⟩ := hm
    cases hr with
    | cons hv hr =>
      simp only [fillA] at hf
      split at hf
      · rename_i off s ys hpl hys
        split at hf
        · rename_i hc
          obtain ⟨hc1, hc2⟩ := hc
          obtain ⟨q1, q2⟩ := cellsA_rep hv hys
          have hl1 := h1.length
          have hl2 := q1.length
          have hvs : v.cells.size = s := by rw [← hc1, ← hl2]; simp
          have hle : off + 0 + v.cells.toList.length ≤ cs.size := by simp at hl1 hl2 ⊢; omega
          have hset := foldl_set v.cells.toList 0 off cs hle
          simp only [Nat.add_zero] at hset
          have hfold : v.cells.zipIdx.foldl (fun cs (c, j) => cs.setIfInBounds (off + j) c) cs = (v.cells.toList.zipIdx 0).foldl (fun cs (p : Value × Nat) => cs.setIfInBounds (off + p.2) p.1) cs := by
            rw [← Array.foldl_toList]; simp
          generalize hd : (v.cells.toList.zipIdx 0).foldl (fun cs (p : Value × Nat) => cs.setIfInBounds (off + p.2) p.1) cs = ds at hset hfold
          have hds1 : RepVs g ds.toList (xs.take off ++ ys ++ xs.drop (off + s)) := by
            rw [hset]
            have e : v.cells.toList.length = s := by simpa using hvs
            rw [e]
            exact ((h1.take off).append q1).append (h1.drop (off + s))
          have hds2 : ∀ u ∈ ds.toList, u.oneCell' = true := fun u hu => by
            rw [hset] at hu
            simp only [List.mem_append] at hu
            rcases hu with (hu | hu) | hu
            · exact h2 u (List.mem_of_mem_take hu)
            · exact q2 u hu
            · exact h2 u (List.mem_of_mem_drop hu)
          obtain ⟨es, e1, e2, e3⟩ := fill_rep hp parts ps ds _ zs hds1 hds2 hm hr hf
          refine ⟨es, ?_, e2, e3⟩
          simp only [Instr.fill, hp _ _ hpl]
          rw [if_neg (by simp [hvs]; simp at hl1; omega), hfold]
          exact e1
        · cases hf
      · cases hf

def evParts (e : Operand → AV) (ps : Array (Nat × Operand)) : List (Nat × AV) := ps.toList.map fun p => (p.1, e p.2)

theorem repVs_map {g : G} {a : Act} {sl : Nat → AV} : ∀ (l : List Operand), (∀ y ∈ l, RepV g (a.eval y) (evS sl y)) → RepVs g (l.map a.eval) (l.map (evS sl))
  | [], _ => .nil
  | y :: l, h => .cons (h y (by simp)) (repVs_map l fun z hz => h z (by simp [hz]))

theorem zero_of {t : TypeId} {zs : List PC} (h : zeroC P t = some zs) : ∃ i z, P.info? t = some i ∧ i.zero = some z ∧ zs = z.cells.toList.map c1 ∧ ∀ u ∈ z.cells.toList, u.oneCell' = true := by
  unfold zeroC at h
  split at h
  · rename_i z hz
    split at h
    · rename_i hall
      injection h with h
      cases hi : P.info? t with
      | none => rw [hi] at hz; cases hz
      | some i => rw [hi] at hz; exact ⟨i, z, rfl, by simpa using hz, h.symm, List.all_eq_true.1 hall⟩
    · cases h
  · cases h

theorem run_places {fs : Array Field} {w : World} {qs : List (Nat × Nat)} (h : fs.toList.mapM (fun f => (tySize P f.type).map fun s => (f.offset, s)) = some qs) :
    (fs.mapM fun (f : Field) => (do pure (f.offset, ← sizeOf f.type) : Sem (Nat × Nat))).run P w = .ok qs.toArray w := by
  rw [Array.mapM_eq_mapM_toList]
  have : ∀ (l : List Field) (qs : List (Nat × Nat)), l.mapM (fun f => (tySize P f.type).map fun s => (f.offset, s)) = some qs → ((l.mapM fun f => (do pure (f.offset, ← sizeOf f.type) : Sem (Nat × Nat))).run P w) = .ok qs w := by
    intro l
    induction l with
    | nil => intro qs h; simp at h; subst h; simp
    | cons f l ih =>
      intro qs h
      simp only [List.mapM_cons] at h ⊢
      cases hs : tySize P f.type with
      | none => rw [hs] at h; simp at h
      | some s =>
        rw [hs] at h
        cases hl : l.mapM (fun f => (tySize P f.type).map fun s => (f.offset, s)) with
        | none => rw [hl] at h; simp at h
        | some qs' =>
          rw [hl] at h
          simp at h; subst h
          have := ih qs' hl
          simp only [Sem.run_bind, run_sizeOf hs, Result.andThen_ok, Sem.run_pure, this]
  rw [Sem.run_map, this _ _ h]; rfl

/-- a struct's fields have their sizes -/
def fieldsOk (P : Program) (t : TypeId) : Bool :=
  match P.underlying t with
  | some (.struct fs) => (fs.toList.mapM (fun f => (tySize P f.type).map fun s => (f.offset, s))).isSome
  | some (.array _ e) => (tySize P e).isSome
  | _ => false

theorem y_build {t : TypeId} {ps : Array (Nat × Operand)} {z : List PC} {zs : List AV} {sl : Nat → AV} (ho : o.op = .build t ps) (hz : zeroC P t = some z) (hok : fieldsOk P t = true)
    (hf : fillA P t (z.map .p) (evParts (evS sl) ps) = some zs) : AYld P sl o (.agg false zs) :=
  yld_raw fun w0 M0 F tb g a w hw h => by
    obtain ⟨i, zv, hi, hzv, rfl, hone⟩ := zero_of hz
    have hr0 : RepVs g zv.cells.toList ((zv.cells.toList.map c1).map .p) := reps_p (reps_c1 g.M _ hone)
    have hops : ∀ y ∈ (ps.toList.map (·.2)), RepV g (a.eval y) (evS sl y) := fun y hy => h y (by rw [ho]; simpa [Op.operands] using hy)
    have hparts := repVs_map (a := a) (sl := sl) (ps.toList.map (·.2)) hops
    have m1 : ((ps.map fun (i, x) => (i, a.eval x)).toList).map (·.1) = (evParts (evS sl) ps).map (·.1) := by simp [evParts]
    have m2 : RepVs g (((ps.map fun (i, x) => (i, a.eval x)).toList).map (·.2)) ((evParts (evS sl) ps).map (·.2)) := by
      have e1 : (((ps.map fun (i, x) => (i, a.eval x)).toList).map (·.2)) = (ps.toList.map (·.2)).map a.eval := by simp
      have e2 : ((evParts (evS sl) ps).map (·.2)) = (ps.toList.map (·.2)).map (evS sl) := by simp [evParts]
      rw [e1, e2]; exact hparts
    unfold fieldsOk at hok
    split at hok
    · rename_i fs hU
      obtain ⟨qs, hqs⟩ := Option.isSome_iff_exists.1 hok
      have hpl : ∀ i q, placeP P t i = some q → qs.toArray[i]? = some q := fun i q hq => by
        unfold placeP at hq; rw [hU] at hq
        simp only at hq
        split at hq
        · rename_i f hfi
          split at hq
          · rename_i s hs
            injection hq with hq; subst hq
            have key : ∀ (l : List Field) (qs : List (Nat × Nat)) (i : Nat), l.mapM (fun f => (tySize P f.type).map fun s => (f.offset, s)) = some qs → l[i]? = some f → qs[i]? = some (f.offset, s) := by
              intro l
              induction l with
              | nil => intro qs i _ h; simp at h
              | cons f' l ih =>
                intro qs i h hi
                simp only [List.mapM_cons] at h
                cases hs' : tySize P f'.type with
                | none => rw [hs'] at h; simp at h
                | some s' =>
                  rw [hs'] at h
                  cases hl : l.mapM (fun f => (tySize P f.type).map fun s => (f.offset, s)) with
                  | none => rw [hl] at h; simp at h
                  | some qs' =>
                    rw [hl] at h; simp at h; subst h
                    cases i with
                    | zero => simp at hi; subst hi; rw [hs] at hs'; injection hs' with hs'; subst hs'; simp
                    | succ i => simp at hi ⊢; exact ih qs' i hl hi
            rw [List.getElem?_toArray]
            exact key fs.toList qs i hqs (by simpa using hfi)
          · cases hq
        · cases hq
      obtain ⟨ds, hd1, hd2, hd3⟩ := fill_rep (place := (qs.toArray[·]?)) hpl _ _ _ _ _ hr0 hone m1 m2 hf
      refine ⟨.agg ds, ?_, by have := RepV.agg hd2 hd3; simpa using this⟩
      have hrun := run_places (w := w) hqs
      simp only [execOp, ho, Instr.build, Sem.run_bind, zeroValue, typeInfo, run_program, hi, hzv, Sem.run_pure, Result.andThen_ok, run_underlying hU, hrun, hd1]
    · rename_i n e hU
      obtain ⟨s, hs⟩ := Option.isSome_iff_exists.1 hok
      have hpl : ∀ i q, placeP P t i = some q → (fun i => some (i * s, s)) i = some q := fun i q hq => by
        unfold placeP at hq; rw [hU] at hq
        simp only [hs] at hq
        exact hq
      obtain ⟨ds, hd1, hd2, hd3⟩ := fill_rep (place := fun i => some (i * s, s)) hpl _ _ _ _ _ hr0 hone m1 m2 hf
      refine ⟨.agg ds, ?_, by have := RepV.agg hd2 hd3; simpa using this⟩
      simp only [execOp, ho, Instr.build, Sem.run_bind, zeroValue, typeInfo, run_program, hi, hzv, Sem.run_pure, Result.andThen_ok, run_underlying hU, run_sizeOf hs, hd1]
    · cases hok

end
end Go.Av

/-! part AvTop4 -/
namespace Go.Av
open Go.RowKit

theorem fill_all {place : Nat → Option (Nat × Nat)} {s : Nat} (hp : ∀ i, place i = some (i * s, s)) : ∀ (vs : List Value) (k : Nat) (cs : Array Value), (∀ v ∈ vs, v.cells.size = s) → cs.size = (k + vs.length) * s →
    ∃ ds, Instr.fill place cs ((vs.zipIdx k).map fun p => (p.2, p.1)) = some ds ∧ ds.toList = cs.toList.take (k * s) ++ cellsOf vs
  | [], k, cs, _, hs => ⟨cs, rfl, by simp [cellsOf]; rw [List.take_of_length_le (by simp; simp at hs; omega)]⟩
  | v :: vs, k, cs, hv, hs => by
    have hv0 := hv v (by simp)
    simp only [List.length_cons] at hs
    have e1 : (k + (vs.length + 1)) * s = k * s + s + vs.length * s := by rw [Nat.add_mul, Nat.add_mul]; omega
    have hle : k * s + 0 + v.cells.toList.length ≤ cs.size := by simp; omega
    have hset := foldl_set v.cells.toList 0 (k * s) cs hle
    simp only [Nat.add_zero] at hset
    have hfold : v.cells.zipIdx.foldl (fun cs (c, j) => cs.setIfInBounds (k * s + j) c) cs = (v.cells.toList.zipIdx 0).foldl (fun cs (p : Value × Nat) => cs.setIfInBounds (k * s + p.2) p.1) cs := by
      rw [← Array.foldl_toList]; simp
    generalize hd : (v.cells.toList.zipIdx 0).foldl (fun cs (p : Value × Nat) => cs.setIfInBounds (k * s + p.2) p.1) cs = ds at hset hfold
    have hdsz : ds.size = cs.size := by
      have := congrArg List.length hset; simp at this; omega
    obtain ⟨es, f1, f2⟩ := fill_all hp vs (k + 1) ds (fun u hu => hv u (by simp [hu])) (by rw [hdsz, hs]; congr 1; omega)
    refine ⟨es, ?_, ?_⟩
    · simp only [List.zipIdx_cons, List.map_cons, Instr.fill, hp]
      rw [if_neg (by simp [hv0]; omega), hfold]
      exact f1
    · rw [f2, hset]
      have e2 : (k + 1) * s = k * s + s := by rw [Nat.add_mul]; omega
      have e3 : v.cells.toList.length = s := by simpa using hv0
      have e4 : (cs.toList.take (k * s)).length = k * s := by simp; omega
      rw [e2, List.take_append_of_le_length (by simp; omega)]
      rw [List.take_of_length_le (by simp; omega)]
      simp [cellsOf]

section
variable {P : Program} {st : AS} {o : Oper}

/-- the parts are all there, in their order -/
def inOrder {α : Type} : Nat → List (Nat × α) → Bool
  | _, [] => true
  | k, (i, _) :: l => i == k && inOrder (k + 1) l

theorem inOrder_zip {α : Type} : ∀ (l : List (Nat × α)) (k : Nat), inOrder k l = true → l = ((l.map (·.2)).zipIdx k).map fun p => (p.2, p.1)
  | [], _, _ => rfl
  | (i, v) :: l, k, h => by
    simp only [inOrder, Bool.and_eq_true, beq_iff_eq] at h
    obtain ⟨rfl, h⟩ := h
    simp only [List.map_cons, List.zipIdx_cons]
    rw [← inOrder_zip l (i + 1) h]

theorem run_buildSlice {t e : TypeId} {sz by_ n : Nat} {ps : List (Nat × Value)} {w : World} (ht : elTy P t = some (e, sz, by_)) (hio : inOrder 0 ps = true) (hn : ps.length = n) (hlim : n * sz ≤ 16777216) (hsz : 0 < sz)
    (hv : ∀ v ∈ ps.map (·.2), v.cells.size = sz) : (Instr.buildSlice t n ps.toArray).run P w = .ok (.slice (some ⟨w.heap.size, 0, none⟩) n n) (w.alloc (.cells (cellsOf (ps.map (·.2))).toArray e)) := by
  obtain ⟨hU, i, z, hi, hz, hisz, hiby, hzs⟩ := elTy_spec ht
  subst hisz
  have hlim' : ¬ (16777216 < n * i.size) := by omega
  obtain ⟨ds, f1, f2⟩ := fill_all (place := fun k => some (k * i.size, i.size)) (fun _ => rfl) (ps.map (·.2)) 0 ((Array.range (n * i.size)).map (z.cells[· % z.cells.size]!)) hv (by simp [hn])
  rw [← inOrder_zip ps 0 hio] at f1
  have hds : ds = (cellsOf (ps.map (·.2))).toArray := by
    apply Array.ext'; rw [f2]; simp
  subst hds
  by_cases h0 : n * i.size = 0
  · have hn0 : n = 0 := by
      rcases Nat.mul_eq_zero.1 h0 with h | h
      · exact h
      · omega
    subst hn0
    have : ps = [] := List.eq_nil_of_length_eq_zero hn
    subst this
    simp [Instr.buildSlice, run_underlying hU, sizeOf, typeInfo, hi, Instr.fill, newRow, cellsOf]
    congr 2
    apply Array.ext'; simp
  · have hz' : (0 < n ∧ 0 < i.size) := ⟨by rcases Nat.eq_zero_or_pos n with h | h; (subst h; simp at h0); exact h, hsz⟩
    simp only [Instr.buildSlice, Sem.run_bind, run_underlying hU, Result.andThen_ok, sizeOf, typeInfo, run_program, hi, Sem.run_pure, zeroValue, hz, if_neg h0, if_neg hlim', f1, newRow, run_newObj_alloc]

theorem allP_len : ∀ (l : List AV) (ys : List PC), allP l = some ys → ys.length = l.length
  | [], ys, h => by simp [allP] at h; subst h; rfl
  | x :: l, ys, h => by
    cases x <;> simp only [allP] at h <;> try cases h
    split at h
    · rename_i r hr; injection h with h; subst h; simp [allP_len l r hr]
    · cases h

/-- a literal that lasts -/
theorem y_buildFull {t e : TypeId} {sz by_ n : Nat} {ps : Array (Nat × Operand)} {ys : List PC} {sl : Nat → AV} (ho : o.op = .buildSlice t n ps) (ht : elTy P t = some (e, sz, by_)) (hsz : 0 < sz) (hio : inOrder 0 ps.toList = true)
    (hn : ps.size = n) (hlim : n * sz ≤ 16777216) (hys : allP (ps.toList.map fun p => (evS sl p.2).nm) = some ys) (hw' : ∀ y ∈ ys, y.width = sz) (h1 : ∀ y ∈ ys, ∀ b xs, y = .agg b xs → b = false) : AYld P sl o (.full ys) :=
  yld_new fun w0 M0 F tb g a w hw h => by
    have hr := allP_reps (g := g) (a := a) (ps.toList.map (·.2)) ys (fun y hy => h y (by rw [ho]; simpa [Op.operands] using hy)) (by rw [List.map_map]; exact hys)
    have hsizes := reps_sizes hr hw'
    have hvals : (((ps.map fun (i, x) => (i, a.eval x)).toList).map (·.2)) = (ps.toList.map (·.2)).map a.eval := by simp
    have hio' : inOrder 0 ((ps.map fun (i, x) => (i, a.eval x)).toList) = true := by
      have key : ∀ (l : List (Nat × Operand)) (k : Nat), inOrder k l = true → inOrder k (l.map fun p => (p.1, a.eval p.2)) = true := by
        intro l
        induction l with
        | nil => intro k _; rfl
        | cons p l ih => intro k hk; simp only [inOrder, Bool.and_eq_true, List.map_cons] at hk ⊢; exact ⟨hk.1, ih _ hk.2⟩
      have := key ps.toList 0 hio
      simpa using this
    have hrun := run_buildSlice (P := P) (w := w) (n := n) ht hio' (by simp [hn]) hlim hsz (by rw [hvals]; exact hsizes)
    rw [hvals] at hrun
    have hone : ∀ u ∈ cellsOf ((ps.toList.map (·.2)).map a.eval), u.oneCell' = true := by
      have key : ∀ {us : List Value} {ys : List PC}, Reps g.M us ys → (∀ y ∈ ys, ∀ b xs, y = .agg b xs → b = false) → ∀ u ∈ cellsOf us, u.oneCell' = true := by
        intro us ys hr
        induction us generalizing ys with
        | nil => intro _ u hu; simp [cellsOf] at hu
        | cons v us ih =>
          intro hb u hu
          cases hr with
          | cons hv hr =>
            rename_i y ys
            simp only [cellsOf, List.flatMap_cons, List.mem_append] at hu
            rcases hu with hu | hu
            · have hby := hb y (by simp)
              by_cases hp : y.plain = true
              · obtain ⟨e1, e2⟩ := rep_plain hv hp
                rw [e1] at hu; simp at hu; subst hu; exact e2
              · cases y with
                | agg b xs =>
                  have := hby b xs rfl; subst this
                  cases hv with
                  | agg hs h1 => exact h1 u (by simpa [Value.cells] using hu)
                | _ => simp [PC.plain] at hp
            · exact ih hr (fun y hy => hb y (by simp [hy])) u hu
      exact key hr h1
    obtain ⟨e1, e2, e3, e4, e5⟩ := ext_ok hw (cellsOf ((ps.toList.map (·.2)).map a.eval)) e (0, 0)
    have hlen : ys.length = n := by have := allP_len _ _ hys; simpa [hn] using this
    refine ⟨.slice (some ⟨w.heap.size, 0, none⟩) n n, _, _, ?_, e1, e2, e3, e4, .full (.sl (sz := sz) (by have := hr.length; omega) (Nat.le_refl _) ?_ hsz hsizes hone e5 (hr.mono e1))⟩
    · have harr : ps.map (fun (p : Nat × Operand) => (p.1, a.eval p.2)) = ((ps.map fun (i, x) => (i, a.eval x)).toList).toArray := by apply Array.ext'; simp
      simp only [execOp, ho, Sem.run_bind]
      have hrun' : (Instr.buildSlice t n (ps.map fun (x : Nat × Operand) => (x.1, a.eval x.2))).run P w = .ok (.slice (some ⟨w.heap.size, 0, none⟩) n n) (w.alloc (.cells (cellsOf ((ps.toList.map (·.2)).map a.eval)).toArray e)) := by rw [harr]; exact hrun
      rw [hrun']; rfl
    · have : n * 1 ≤ n * sz := Nat.mul_le_mul_left _ hsz
      unfold maxLen; omega

end
end Go.Av
