/- An abstract interpreter over the program's form, with the proof that it is sound: part Ec. Own work. It holds for any program that the model takes. -/
import Derived.Test.YtffoncjofjgojaaGreatDoorEb
set_option linter.all false
/-! part AvRun -/
namespace Go.Av
open Go.RowKit

/-! ### what an operation does -/

/-- an argument may be taken for less -/
def AV.to1 (x y : AV) : Prop := y = x ∨ (∃ p, x.pc = some p ∧ (y = .p p ∨ y = .p p.wk)) ∨ (x = .p .nil ∧ y = .full []) ∨ ∃ id o n s m, x = .view id o n s m ∧ y = .view id o n s none
mutual
def AV.to : AV → AV → Prop
  | .agg t xs, .agg t' ys => t = t' ∧ toAll xs ys
  | x, y => x.to1 y
def toAll : List AV → List AV → Prop
  | [], [] => True
  | x :: l, y :: m => x.to y ∧ toAll l m
  | _, _ => False
end

theorem repV_to1 {g : G} {v : Value} {x y : AV} (h : RepV g v x) (e : x.to1 y) : RepV g v y := by
  rcases e with rfl | ⟨p, e, rfl | rfl⟩ | ⟨rfl, rfl⟩ | ⟨id, o, n, s, m, rfl, rfl⟩
  · exact h
  · exact .p (repV_pc h p e)
  · exact .p (rep_wk (repV_pc h p e))
  · cases h with | p h => cases h; exact .full .nilsl
  · cases h with | view e h1 h2 h3 _ => exact .view e h1 h2 h3 (fun _ h => by cases h)

mutual
theorem repV_to {g : G} : ∀ {v : Value} (x : AV) {y : AV}, RepV g v x → x.to y → RepV g v y
  | v, .agg t xs, y, h, e => by
    by_cases hy : ∃ t' ys, y = .agg t' ys
    · obtain ⟨t', ys, rfl⟩ := hy
      simp only [AV.to] at e
      obtain ⟨rfl, e⟩ := e
      cases h with
      | agg hs h1 => exact .agg (repVs_to xs hs e) h1
      | tup hs => exact .tup (repVs_to xs hs e)
    · refine repV_to1 h ?_
      unfold AV.to at e
      split at e
      · exact absurd ⟨_, _, rfl⟩ hy
      · exact e
  | v, .p x, y, h, e => repV_to1 h (by unfold AV.to at e; exact e)
  | v, .obj i o, y, h, e => repV_to1 h (by unfold AV.to at e; exact e)
  | v, .own i o, y, h, e => repV_to1 h (by unfold AV.to at e; exact e)
  | v, .full x, y, h, e => repV_to1 h (by unfold AV.to at e; exact e)
  | v, .nn x, y, h, e => repV_to1 h (by unfold AV.to at e; exact e)
  | v, .view a b c d f, y, h, e => repV_to1 h (by unfold AV.to at e; exact e)
  | v, .clo f x, y, h, e => repV_to1 h (by unfold AV.to at e; exact e)
  | v, .ifc f x, y, h, e => repV_to1 h (by unfold AV.to at e; exact e)
  | v, .any, y, h, e => repV_to1 h (by unfold AV.to at e; exact e)
theorem repVs_to {g : G} : ∀ {vs : List Value} (xs : List AV) {ys : List AV}, RepVs g vs xs → toAll xs ys → RepVs g vs ys
  | _, [], ys, h, e => by
    cases ys with
    | nil => exact h
    | cons y ys => simp [toAll] at e
  | _, x :: xs, ys, h, e => by
    cases ys with
    | nil => simp [toAll] at e
    | cons y ys =>
      simp only [toAll] at e
      cases h with | cons h1 hs => exact .cons (repV_to x h1 e.1) (repVs_to xs hs e.2)
end

/-- a call of a function that takes, or hands back, what is the caller's own -/
def gcallW (P : Program) (gf : FuncId) (caps : List PC) (args : List AV) (tb : Tb) (k : AV → Tb → Prop) : Prop :=
  ∃ ys ts r ts', toAll args ys ∧ GenC P gf (ys ++ caps.map .p) ts r ts' ∧ sub1 tb.bx ts.bx ∧ sub1 tb.rw ts.rw ∧ ts.nx = tb.nx ∧ k r (tb.merge ts ts')

def callT (P : Program) (args : List AV) (tb : Tb) (k : AV → Tb → Prop) : AV → Prop
  | .p (.fn (.func gf) caps) => (∃ xs, allP (args.map AV.nm) = some xs ∧ callW P gf (xs.map PC.wk ++ caps) fun r => k r tb) ∨ gcallW P gf caps args tb k ∨ bcallW P gf caps args tb k ∨ (caps = [] ∧ ovlX P gf args tb k)
  | _ => False

/-- a method that takes the pointer as it is: its function -/
def methF (P : Program) (t : TypeId) (name : String) : Option FuncId :=
  match P.info? t with
  | some i => match i.methods.find? (·.name == name), P.underlying t with
    | some m, some (.pointer _) => if m.path.isEmpty = true then (match m.func with | some (f, true) => some f | _ => none) else none
    | _, _ => none
  | none => none
/-- a method called through an interface -/
def invG (P : Program) (x : AV) (args : List AV) (tb : Tb) (k : AV → Tb → Prop) : Option FuncId → Prop
  | some gf => gcallW P gf [] (x :: args) tb k
  | none => False
def invT (P : Program) (name : String) (args : List AV) (tb : Tb) (k : AV → Tb → Prop) : AV → Prop
  | .ifc t x => invG P x args tb k (methF P t name)
  | _ => False

def loadT (P : Program) (t : TypeId) (tb : Tb) (k : AV → Tb → Prop) : AV → Prop
  | .obj id off => match lk id tb.bx, tyAgg P t, tySize P t with
    | some ob, some ag, some s => (match partA off s ag ob.xs with
      | some y => k y tb
      | none => False)
    | _, _, _ => False
  | x => loadW P t (fun y => k y tb) x.nm

def storeT (P : Program) (t : TypeId) (tb : Tb) (k : AV → Tb → Prop) (x y : AV) : Prop :=
  match x, y.cellsA with
  | .obj id off, some zs => match lk id tb.bx with
    | some ob => tySize P t = some zs.length ∧ off + zs.length ≤ ob.xs.length ∧ k .any (tb.setOb id { ob with xs := ob.xs.take off ++ zs ++ ob.xs.drop (off + zs.length) })
    | none => False
  | _, _ => False

/-- what is appended to -/
def appX (rw : List (Nat × TypeId × Nat)) (e : TypeId) (sz : Nat) : AV → Option (Option Nat × List PC)
  | .own id xs => if lk id rw = some (e, sz) then some (some id, xs) else none
  | .full xs => some (none, xs)
  | .p .nil => some (none, [])
  | _ => none
def RowOf (rw : List (Nat × TypeId × Nat)) (e : TypeId) (sz : Nat) (x : AV) (xs : List PC) : Option Nat → Prop
  | none => x = .full xs ∨ xs = [] ∧ x = .p .nil
  | some id => x = .own id xs ∧ lk id rw = some (e, sz)
theorem appX_spec {rw : List (Nat × TypeId × Nat)} {e : TypeId} {sz : Nat} {x : AV} {rid : Option Nat} {xs : List PC} (h : appX rw e sz x = some (rid, xs)) : RowOf rw e sz x xs rid := by
  unfold appX at h
  split at h
  · split at h
    · rename_i hl; injection h with h; injection h with h1 h2; subst h1; subst h2; exact ⟨rfl, hl⟩
    · cases h
  · injection h with h; injection h with h1 h2; subst h1; subst h2; exact .inl rfl
  · injection h with h; injection h with h1 h2; subst h1; subst h2; exact .inr ⟨rfl, rfl⟩
  · cases h

/-- appended to nothing or to a list -/
def appL (P : Program) (u : TypeId) (e : TypeId) (sz by_ : Nat) (rid : Option Nat) (xs : List PC) (tb : Tb) (k : AV → Tb → Prop) (ys : List PC) : Prop :=
  0 < sz ∧ (elSize P u).isSome = true ∧ (∀ x ∈ xs, x.width = sz) ∧ (∀ y ∈ ys, y.width = sz) ∧ (xs.length + ys.length) * by_ ≤ 140737488355328 ∧ xs.length + ys.length ≤ 9223372036854775807 ∧
    k (.own tb.nx (xs ++ ys)) (appTb tb rid e sz)
def appS (P : Program) (u : TypeId) (e : TypeId) (sz by_ : Nat) (rid : Option Nat) (xs : List PC) (tb : Tb) (k : AV → Tb → Prop) (s : ByteArray) : Prop :=
  sz = 1 ∧ isStr P u = true ∧ (∀ x ∈ xs, x.width = 1) ∧ (xs.length + (bs s).length) * by_ ≤ 140737488355328 ∧ xs.length + (bs s).length ≤ 9223372036854775807 ∧ k (.own tb.nx (xs ++ bytesPC (bs s))) (appTb tb rid e 1)
def appY (P : Program) (u : TypeId) (e : TypeId) (sz by_ : Nat) (tb : Tb) (k : AV → Tb → Prop) (y : AV) : Option (Option Nat × List PC) → Prop
  | some (rid, xs) => match y with
    | .p (.sc (.string s)) => appS P u e sz by_ rid xs tb k s
    | .p (.sl ys) => appL P u e sz by_ rid xs tb k ys
    | .p .nil => appL P u e sz by_ rid xs tb k []
    | _ => False
  | none => False
def appT (P : Program) (u : TypeId) (tb : Tb) (k : AV → Tb → Prop) (x y : AV) : Option (TypeId × Nat × Nat) → Prop
  | some (e, sz, by_) => appY P u e sz by_ tb k y (appX tb.rw e sz x)
  | none => False

def boxT (P : Program) (t : TypeId) (tb : Tb) (k : AV → Tb → Prop) (x : AV) : Prop :=
  match x.cellsA with
  | some zs => k (.obj tb.nx 0) (tb.addOb ⟨t, zs.length, zs⟩)
  | none => False

def allocT (P : Program) (tb : Tb) (k : AV → Tb → Prop) : Option (List PC) → TypeId → Prop
  | some zs, t => k (.obj tb.nx 0) (tb.addOb ⟨t, zs.length, zs.map .p⟩)
  | none, _ => False

def mkT (P : Program) (tb : Tb) (k : AV → Tb → Prop) (x y : AV) : Option (TypeId × Nat × Nat) → Prop
  | some (e, s, by_) => match x, y, zeroC P e with
    | .p (.sc (.int _ n)), .p (.sc (.int _ c)), some z => 0 < s ∧ 0 ≤ n ∧ n ≤ c ∧ by_ * c.toNat ≤ 281474976710656 ∧ c.toNat ≤ maxLen ∧ k (.view tb.nx 0 n.toNat s (some c.toNat)) (tb.addOb ⟨e, s, (repC c.toNat z).map .p⟩)
    | _, _, _ => False
  | none => False

/-- copy -/
def cpG (tb1 : Tb) (k : AV → Tb → Prop) (id f n s : Nat) (ob : Ob) (n' f' : Nat) : Option Ob → Prop
  | some ob' => (f' + Nat.min n' n) * s ≤ ob'.xs.length ∧ k (.p (.int (Nat.min n' n : Nat))) (tb1.setOb id { ob with xs := ob.xs.take (f * s) ++ (ob'.xs.drop (f' * s)).take (Nat.min n' n * s) ++ ob.xs.drop (f * s + Nat.min n' n * s) })
  | none => False
def cpP (tb1 : Tb) (k : AV → Tb → Prop) (id f n s : Nat) (ob : Ob) : AV → Prop
  | .view id' f' n' s' _ => s' = s ∧ cpG tb1 k id f n s ob n' f' (lk id' tb1.bx)
  | y => (match y.nm with
    | .p (.sl ys) => (∀ y ∈ ys, y.width = s) ∧ (∀ y ∈ ys, noTup y = true) ∧
        k (.p (.int (Nat.min ys.length n : Nat))) (tb1.setOb id { ob with xs := ob.xs.take (f * s) ++ (ys.take (Nat.min ys.length n)).flatMap pcCells ++ ob.xs.drop (f * s + Nat.min ys.length n * s) })
    | _ => False)
def cpO (tb : Tb) (k : AV → Tb → Prop) (id f n s : Nat) (y : AV) : Option Ob → Prop
  | some ob => ob.sz = s ∧ cpP (tb.setOb id { ob with xs := padTo (f * s) ob.xs }) k id f n s { ob with xs := padTo (f * s) ob.xs } y
  | none => False
def cpT (tb : Tb) (k : AV → Tb → Prop) (es : Option Nat) : AV → AV → Prop
  | .view id f n s _, y => es = some s ∧ cpO tb k id f n s y (lk id tb.bx)
  | _, _ => False

/-- clear -/
def clT (P : Program) (tb : Tb) (k : AV → Tb → Prop) (x : AV) : Option (TypeId × Nat × Nat) → Prop
  | some (e, s, _) => match x, zeroC P e with
    | .view id f n s' _, some z => s' = s ∧ 0 < s ∧ (match lk id tb.bx with
      | some ob => ob.sz = s ∧ f * s ≤ ob.xs.length ∧ k .any (tb.setOb id { ob with xs := ob.xs.take (f * s) ++ (repC n z).map .p ++ ob.xs.drop (f * s + n * s) })
      | none => False)
    | _, _ => False
  | none => False

/-- append to a view -/
def appVG (tb : Tb) (k : AV → Tb → Prop) (id f n s m by_ : Nat) (e : TypeId) (ob : Ob) (j : Nat) (zs : List AV) : Prop :=
  (f + n + j ≤ m ∧ k (.view id f (n + j) s (some m)) (tb.setOb id { ob with xs := ob.xs.take ((f + n) * s) ++ zs ++ ob.xs.drop ((f + n) * s + j * s) })) ∨
  (m - f < n + j ∧ (n + j) * by_ ≤ 140737488355328 ∧ n + j ≤ 9223372036854775807 ∧ k (.view tb.nx 0 (n + j) s none) (tb.addOb ⟨e, s, (ob.xs.drop (f * s)).take (n * s) ++ zs⟩))
def appNG (tb : Tb) (k : AV → Tb → Prop) (id f n s by_ : Nat) (e : TypeId) (ob : Ob) (j : Nat) (zs : List AV) : Prop :=
  f = 0 ∧ ob.el = e ∧ (n + j) * by_ ≤ 140737488355328 ∧ n + j ≤ 9223372036854775807 ∧ k (.view tb.nx 0 (n + j) s none) ((tb.delOb id).addOb ⟨e, s, ob.xs.take (n * s) ++ zs⟩)
def appG (P : Program) (u : TypeId) (tb : Tb) (k : AV → Tb → Prop) (id f n s by_ : Nat) (e : TypeId) (ob : Ob) (y : AV) : Option Nat → Prop
  | some m => srcW P tb u s (appVG tb k id f n s m by_ e ob) y
  | none => srcW P tb u s (appNG tb k id f n s by_ e ob) y
def appZ (P : Program) (tb : Tb) (k : AV → Tb → Prop) (f n s by_ : Nat) (e : TypeId) (ob : Ob) : Option Nat → AV → Option (List PC) → Prop
  | some m, .p (.sc (.int _ j)), some z => 0 < s ∧ 0 < j ∧ m - f < n + j.toNat ∧ (n + j.toNat) * by_ ≤ 140737488355328 ∧ n + j.toNat ≤ 9223372036854775807 ∧
      k (.view tb.nx 0 (n + j.toNat) s none) (tb.addOb ⟨e, s, (ob.xs.drop (f * s)).take (n * s) ++ (repC j.toNat z).map .p⟩)
  | _, _, _ => False
def appH (P : Program) (u : TypeId) (tb : Tb) (k : AV → Tb → Prop) (id f n s : Nat) (m : Option Nat) (by_ : Nat) (e : TypeId) (y : AV) : Option IntKind → Option Ob → Prop
  | none, some ob => ob.sz = s ∧ (f + n) * s ≤ ob.xs.length ∧ appG P u tb k id f n s by_ e ob y m
  | some _, some ob => (f + n) * s ≤ ob.xs.length ∧ appZ P tb k f n s by_ e ob m y.nm (zeroC P e)
  | _, none => False

def appW (P : Program) (u : TypeId) (tb : Tb) (k : AV → Tb → Prop) (id f n s : Nat) (m : Option Nat) (y : AV) : Option (TypeId × Nat × Nat) → Prop
  | some (e, s', by_) => s' = s ∧ appH P u tb k id f n s m by_ e y (Av.intOf P u) (lk id tb.bx)
  | none => False

/-- append to nothing, into a row that is written again -/
def appMG (tb : Tb) (k : AV → Tb → Prop) (s by_ : Nat) (e : TypeId) (j : Nat) (zs : List AV) : Prop :=
  j * by_ ≤ 140737488355328 ∧ j ≤ 9223372036854775807 ∧ k (.view tb.nx 0 j s none) (tb.addOb ⟨e, s, zs⟩)
def appMZ (tb : Tb) (k : AV → Tb → Prop) (s by_ : Nat) (e : TypeId) : AV → Option (List PC) → Prop
  | .p (.sc (.int _ j)), some z => 0 < s ∧ 0 < j ∧ j.toNat * by_ ≤ 140737488355328 ∧ j.toNat ≤ 9223372036854775807 ∧ k (.view tb.nx 0 j.toNat s none) (tb.addOb ⟨e, s, (repC j.toNat z).map .p⟩)
  | _, _ => False
def appMI (P : Program) (u : TypeId) (tb : Tb) (k : AV → Tb → Prop) (s by_ : Nat) (e : TypeId) (y : AV) : Option IntKind → Prop
  | some _ => appMZ tb k s by_ e y.nm (zeroC P e)
  | none => srcW P tb u s (appMG tb k s by_ e) y
def isNone : AV → Prop
  | .full [] => True
  | .p .nil => True
  | _ => False
def appM (P : Program) (u : TypeId) (tb : Tb) (k : AV → Tb → Prop) (x y : AV) : Option (TypeId × Nat × Nat) → Prop
  | some (e, s, by_) => isNone x ∧ appMI P u tb k s by_ e y (Av.intOf P u)
  | none => False

def appA (P : Program) (md : Bool) (u : TypeId) (tb : Tb) (k : AV → Tb → Prop) (el : Option (TypeId × Nat × Nat)) : AV → AV → Prop
  | .view id f n s m, y => appW P u tb k id f n s m y el
  | x, y => if md = true then appM P u tb k x y el else appT P u tb k x y.nm el

/-- a literal that is written again -/
def litK (P : Program) (t : TypeId) (n : Nat) (tb : Tb) (k : AV → Tb → Prop) : AV → Prop
  | .full ys => match elTy P t with
    | some (e, sz, _) => k (.view tb.nx 0 n sz (some n)) (tb.addOb ⟨e, sz, ys.flatMap pcCells⟩)
    | none => False
  | _ => False

/-- a row's octets as a text -/
def cvV (P : Program) (s d : TypeId) (tb : Tb) (k : AV → Tb → Prop) (x : AV) : Prop :=
  isBytes P s = true ∧ isStr P d = true ∧ ∃ l : List UInt8, borF tb.bx 1 x (.sl (bytesPC l)) ∧ k (.p (.str l)) tb
/-- a row of octets gets the run time's mark -/
def cvG (P : Program) (s d : TypeId) (tb : Tb) (k : AV → Tb → Prop) (x : AV) (id n : Nat) : Option Ob → Prop
  | some ob => s = d ∧ isBytes P d = true ∧ ob.el < 1000000 ∧ 0 < ob.xs.length ∧ 0 < n ∧ k x (tb.setOb id { ob with el := ob.el + 1000000 })
  | none => False
/-- a text's octets, in a row that is written again -/
def cvB (P : Program) (s d : TypeId) (tb : Tb) (k : AV → Tb → Prop) (b : ByteArray) : Option (TypeId × Nat × Nat) → Prop
  | some (el, sz, _) => isStr P s = true ∧ isBytes P d = true ∧ sz = 1 ∧ (bs b).length ≤ 9223372036854775807 ∧ k (.view tb.nx 0 (bs b).length 1 none) (tb.addOb ⟨el + 1000000, 1, (bytesPC (bs b)).map .p⟩)
  | none => False
def cvM (P : Program) (s d : TypeId) (tb : Tb) (k : AV → Tb → Prop) : AV → Prop
  | .p (.sc (.string b)) => cvB P s d tb k b (elTy P d)
  | _ => False
def convT (P : Program) (md : Bool) (s d : TypeId) (tb : Tb) (k : AV → Tb → Prop) : AV → Prop
  | .view id f n z m => if isStr P d = true then cvV P s d tb k (.view id f n z m) else cvG P s d tb k (.view id f n z m) id n (lk id tb.bx)
  | x => if md = true then cvM P s d tb k x.nm else convW P s d (fun y => k y tb) x.nm

/-- 'md': does a box of this operation hold what is written again? -/
def opT (P : Program) (md : Bool) (op : Op) (e : Operand → AV) (tb : Tb) (k : AV → Tb → Prop) : Prop :=
  match op with
  | .box t x => if md = true then boxT P t tb k (e x) else opR P (.box t x) e fun y => k y tb
  | .alloc t => allocT P tb k (zeroC P t) t
  | .buildSlice t n ps => if md = true then litW P t n (litK P t n tb k) (evParts e ps) else opR P (.buildSlice t n ps) e fun y => k y tb
  | .convert s d x => convT P md s d tb k (e x)
  | .load t x => loadT P t tb k (e x)
  | .store t x y => storeT P t tb k (e x) (e y)
  | .makeSlice t x y => mkT P tb k (e x).nm (e y).nm (elTy P t)
  | .call c => match c.callee with
    | .builtin .append => c.args.size = 2 ∧ c.argTypes.size = 2 ∧ appA P md (c.argTypes.getD 1 0) tb k (elTy P (c.argTypes.getD 0 0)) (e (c.args.getD 0 (.tmp 0))) (e (c.args.getD 1 (.tmp 0)))
    | .builtin .copy => c.args.size = 2 ∧ c.argTypes.size = 2 ∧ cpT tb k (elSize P (c.argTypes.getD 0 0)) (e (c.args.getD 0 (.tmp 0))) (e (c.args.getD 1 (.tmp 0)))
    | .builtin .clear => c.args.size = 1 ∧ c.argTypes.size = 1 ∧ clT P tb k (e (c.args.getD 0 (.tmp 0))) (elTy P (c.argTypes.getD 0 0))
    | .value f => callT P (c.args.toList.map e) tb k (e f).nm
    | .invoke x name => invT P name (c.args.toList.map e) tb k (e x)
    | _ => opR P (.call c) e fun y => k y tb
  | op => opR P op e fun y => k y tb

section
variable {P : Program} {st : AS} {o : Oper}

theorem t_gcall {c : Call} {f : Operand} {gf : FuncId} {caps : List PC} {ys : List AV} {ts ts' : Tb} {r : AV} (ho : o.op = .call c) (hc : c.callee = .value f) (hf : (evS st.sl f).nm = .p (.fn (.func gf) caps))
    (hx : toAll (c.args.toList.map (evS st.sl)) ys) (hp : GenC P gf (ys ++ caps.map .p) ts r ts') (hb : sub1 st.tb.bx ts.bx) (hr : sub1 st.tb.rw ts.rw) (hn : ts.nx = st.tb.nx) : TYld P st o r (st.tb.merge ts ts') := by
  intro w0 M0 F g a w hw hop K Q hK
  have hop' : ∀ y, y ∈ o.op.operands → RepV g (a.eval y) (evS st.sl y) := fun y hy => repV_ev y fun t e => hop t (e ▸ hy)
  have h1 := repV_nm (hop' f (by rw [ho]; simp [Op.operands, Call.operands, hc]))
  rw [hf] at h1
  have h1' := repV_p h1
  generalize hv : a.eval f = v at h1'
  cases h1' with
  | fn hcaps =>
    rename_i cv
    have hargs := repVs_map (g := g) (a := a) (sl := st.sl) c.args.toList (fun y hy => hop' y (by rw [ho]; simp [Op.operands, Call.operands, hc]; exact Or.inr (by simpa using hy)))
    have hall := (repVs_to _ hargs hx).append (reps_p hcaps)
    have hrun : (execOp a.eval o).run P w = .ok (.enter gf ((c.args.toList.map a.eval) ++ cv).toArray) w := by
      simp [execOp, ho, resolve, hc, hv, Deferred.ofValue, invoke, run_callFunc hp.1]
    unfold Oper.wp
    rw [hrun]
    refine (hp.2 g w _ _ (hw.part hb hr hn) hall).mono ?_
    rintro e' w' ⟨v', g', rfl, hle, hS, hr'⟩
    exact hK v' w' g' hle (hw.back hb hr hle hS) hr'

theorem run_meth {t : TypeId} {name : String} {gf : FuncId} {v : Value} {w : World} {n : Nat} (h : methF P t name = some gf) : (method (n + 1) t v name).run P w = .ok (gf, v) w := by
  unfold methF at h
  split at h
  · rename_i i hi
    split at h
    · rename_i m e hm hu
      split at h
      · rename_i hp
        split at h
        · rename_i f hf
          injection h with h; subst h
          have hpath : m.path.toList = [] := by
            have : m.path = #[] := by simpa using hp
            rw [this]
          unfold method
          simp only [Sem.run_bind, run_typeInfo (w := w) hi, Result.andThen_ok, hm, hpath, follow, Sem.run_pure, hf, receiverAt, run_underlying hu, Place.get]
        · cases h
      · cases h
    · cases h
  · cases h

theorem t_invoke {c : Call} {x : Operand} {name : String} {t : TypeId} {av : AV} {gf : FuncId} {ys : List AV} {ts ts' : Tb} {r : AV} (ho : o.op = .call c) (hc : c.callee = .invoke x name) (hf : evS st.sl x = .ifc t av) (hm : methF P t name = some gf)
    (hx : toAll (av :: c.args.toList.map (evS st.sl)) ys) (hp : GenC P gf ys ts r ts') (hb : sub1 st.tb.bx ts.bx) (hr : sub1 st.tb.rw ts.rw) (hn : ts.nx = st.tb.nx) : TYld P st o r (st.tb.merge ts ts') := by
  intro w0 M0 F g a w hw hop K Q hK
  have hop' : ∀ y, y ∈ o.op.operands → RepV g (a.eval y) (evS st.sl y) := fun y hy => repV_ev y fun t e => hop t (e ▸ hy)
  have h1 := hop' x (by rw [ho]; simp [Op.operands, Call.operands, hc])
  rw [hf] at h1
  generalize hv : a.eval x = v at h1
  cases h1 with
  | ifc hrecv =>
    rename_i rv
    have hargs := repVs_map (g := g) (a := a) (sl := st.sl) c.args.toList (fun y hy => hop' y (by rw [ho]; simp [Op.operands, Call.operands, hc]; exact Or.inr (by simpa using hy)))
    have hall := repVs_to _ (RepVs.cons hrecv hargs) hx
    have hrun : (execOp a.eval o).run P w = .ok (.enter gf (rv :: c.args.toList.map a.eval).toArray) w := by
      have e1 : #[Value.iface t rv] ++ Array.map a.eval c.args = (Value.iface t rv :: c.args.toList.map a.eval).toArray := by
        apply Array.ext'; simp
      simp only [execOp, ho, resolve, hc, hv, Sem.run_bind, Sem.run_pure, Result.andThen_ok, invoke, e1]
      simp [callMethod, run_program, Made.depth, run_meth hm, run_callFunc hp.1]
      exact List.take_of_length_le (by simp)
    unfold Oper.wp
    rw [hrun]
    refine (hp.2 g w _ _ (hw.part hb hr hn) hall).mono ?_
    rintro e' w' ⟨v', g', rfl, hle, hS, hr'⟩
    exact hK v' w' g' hle (hw.back hb hr hle hS) hr'

theorem two_of {α : Type} {a : Array α} (h : a.size = 2) (d : α) : a = #[a.getD 0 d, a.getD 1 d] := by
  match a, h with
  | ⟨[x, y]⟩, _ => rfl

theorem opT_yld {md : Bool} {k : AV → Tb → Prop} (h : opT P md o.op (evS st.sl) st.tb k) : ∃ x tb', k x tb' ∧ TYld P st o x tb' := by
  have ofQ : (opR P o.op (evS st.sl) fun y => k y st.tb) → ∃ x tb', k x tb' ∧ TYld P st o x tb' := fun h => by
    obtain ⟨x, h1, h2⟩ := opR_yld h; exact ⟨x, _, h1, TYld.of_A h2⟩
  unfold opT at h
  split at h
  · rename_i t x ho
    split at h
    · unfold boxT at h
      split at h
      · rename_i zs hz; exact ⟨_, _, h, t_box ho hz⟩
      · exact h.elim
    · exact ofQ (by rw [ho]; exact h)
  · rename_i t ho
    cases hz : zeroC P t with
    | none => rw [hz] at h; exact h.elim
    | some zs => rw [hz] at h; exact ⟨_, _, h, t_alloc ho hz⟩
  · rename_i t n ps ho
    split at h
    · unfold litW at h
      split at h
      · rename_i e sz by_ ht
        obtain ⟨h1, h2, h3, h4, h⟩ := h
        split at h
        · rename_i ys hys
          obtain ⟨h5, h⟩ := h
          unfold litK at h
          simp only [ht] at h
          have h6 := List.all_eq_true.1 h5
          have io : ∀ (l : List (Nat × Operand)) (k : Nat), inOrder k (l.map fun p => (p.1, evS st.sl p.2)) = inOrder k l := by
            intro l; induction l with
            | nil => intro k; rfl
            | cons p l ih => intro k; simp [inOrder, ih]
          refine ⟨_, _, h, t_lit ho ht h1 (by rw [← io]; exact h2) (by simpa [evParts] using h3) h4 (by rw [← hys]; simp [evParts, Function.comp_def]) (fun y hy => ?_) (fun y hy => ?_)⟩
          · have := h6 y hy; simp at this; exact this.1
          · have := h6 y hy; simp at this; exact this.2
        · exact h.elim
      · exact h.elim
    · exact ofQ (by rw [ho]; exact h)
  · rename_i s d x ho
    unfold convT at h
    split at h
    · rename_i id f n z m hx
      split at h
      · obtain ⟨h1, h2, l, h3, h4⟩ := h
        exact ⟨_, _, h4, t_convVS ho hx h1 h2 h3⟩
      · unfold cvG at h
        split at h
        · rename_i ob hl
          obtain ⟨rfl, h2, h3, h4, h5, h6⟩ := h
          exact ⟨_, _, h6, t_convMk ho hx h2 hl h3 h4 h5⟩
        · exact h.elim
    · split at h
      · unfold cvM at h
        split at h
        · rename_i b hb
          unfold cvB at h
          split at h
          · rename_i el sz by_ hel
            obtain ⟨h1, h2, rfl, h4, h5⟩ := h
            exact ⟨_, _, h5, t_convSBM ho hb h1 h2 hel h4⟩
          · exact h.elim
        · exact h.elim
      · refine ofQ ?_
        rw [ho]; exact h
  · rename_i t x ho
    unfold loadT at h
    split at h
    · rename_i id off hx
      split at h
      · rename_i ob ag s hl ha hs
        split at h
        · rename_i y hp; exact ⟨_, _, h, t_load ho hx hl ha hs hp⟩
        · exact h.elim
      · exact h.elim
    · refine ofQ ?_
      rw [ho]; exact h
  · rename_i t x y ho
    unfold storeT at h
    split at h
    · rename_i id off zs hx hy
      split at h
      · rename_i ob hl
        obtain ⟨h1, h2, h⟩ := h
        exact ⟨_, _, h, t_store ho hx hl hy h1 h2⟩
      · exact h.elim
    · exact h.elim
  · rename_i t x y ho
    unfold mkT at h
    split at h
    · rename_i e s by_ hel
      split at h
      · rename_i kl n kc c z hx hy hz
        obtain ⟨h1, h2, h3, h4, h5, h⟩ := h
        exact ⟨_, _, h, t_mk ho hel h1 hz (kl := kl) (kc := kc) (by rw [hx, Int.toNat_of_nonneg h2]) (by rw [hy, Int.toNat_of_nonneg (by omega)]) (by omega) h4 h5⟩
      · exact h.elim
    · exact h.elim
  · rename_i c ho
    split at h
    · rename_i hc
      obtain ⟨ha, ht, h⟩ := h
      have ea := two_of ha (.tmp 0)
      have et := two_of ht 0
      generalize c.args.getD 0 (.tmp 0) = x at *
      generalize c.args.getD 1 (.tmp 0) = y at *
      generalize c.argTypes.getD 0 0 = t at *
      generalize c.argTypes.getD 1 0 = u at *
      unfold appA at h
      split at h
      · rename_i id f n s m hx
        unfold appW at h
        split at h
        · rename_i e s' by_ hel
          obtain ⟨rfl, h⟩ := h
          unfold appH at h
          split at h
          · rename_i ob _ hl
            obtain ⟨h1, h2, h⟩ := h
            unfold appG at h
            split at h
            · obtain ⟨j, zs, h3, h4⟩ := srcW_ok h
              rcases h3 with ⟨h5, h⟩ | ⟨h5, h7, h8, h⟩
              · exact ⟨_, _, h, t_appG ho hc ea et hx hl h1 hel h2 h5 h4⟩
              · exact ⟨_, _, h, t_growG ho hc ea et hx hl hel h2 h4 h5 h7 h8⟩
            · obtain ⟨j, zs, ⟨rfl, h5, h7, h8, h⟩, h4⟩ := srcW_ok h
              exact ⟨_, _, h, t_appN ho hc ea et hx hl h1 h5 hel (by simpa using h2) h4 h7 h8⟩
          · rename_i kd ob hu hl
            obtain ⟨h2, h⟩ := h
            unfold appZ at h
            split at h
            · rename_i m' kd' j z hy hz
              obtain ⟨h3, h4, h5, h6, h7, h⟩ := h
              exact ⟨_, _, h, t_growZ ho hc ea et hx hl hel h3 h2 hu hz (kd' := kd') (by rw [hy, Int.toNat_of_nonneg (by omega)]) (by omega) h5 h6 h7⟩
            · exact h.elim
          · exact h.elim
        · exact h.elim
      · rename_i hnv
        split at h
        · unfold appM at h
          split at h
          · rename_i e s by_ hel
            obtain ⟨h1, h⟩ := h
            have hx : evS st.sl x = .full [] ∨ evS st.sl x = .p .nil := by
              unfold isNone at h1
              split at h1
              · rename_i hx; exact .inl hx
              · rename_i hx; exact .inr hx
              · exact h1.elim
            unfold appMI at h
            split at h
            · rename_i kd hu
              unfold appMZ at h
              split at h
              · rename_i kd' j z hy hz
                obtain ⟨h3, h4, h6, h7, h⟩ := h
                exact ⟨_, _, h, t_growZM ho hc ea et hx hel h3 hu hz (kd' := kd') (by rw [hy, Int.toNat_of_nonneg (by omega)]) (by omega) h6 h7⟩
              · exact h.elim
            · obtain ⟨j, zs, ⟨h7, h8, h⟩, h4⟩ := srcW_ok h
              exact ⟨_, _, h, t_appM ho hc ea et hx hel h4 h7 h8⟩
          · exact h.elim
        unfold appT at h
        split at h
        · rename_i e sz by_ hel
          cases hX : appX st.tb.rw e sz (evS st.sl x) with
          | none => rw [hX] at h; exact h.elim
          | some q =>
            obtain ⟨rid, xs⟩ := q
            rw [hX] at h
            have hR := appX_spec hX
            unfold appY at h
            simp only at h
            split at h
            · rename_i s hy
              obtain ⟨rfl, h1, h2, h3, h4, h⟩ := h
              exact ⟨_, _, h, t_appendS ho hc ea et hel h1 h2 h3 h4 hy (by cases rid <;> exact hR)⟩
            · rename_i ys hy
              obtain ⟨h1, h2, h3, h4, h5, h6, h⟩ := h
              exact ⟨_, _, h, t_append ho hc ea et hel h1 h2 h3 h4 h5 h6 (.inl hy) (by cases rid <;> exact hR)⟩
            · rename_i hy
              obtain ⟨h1, h2, h3, h4, h5, h6, h⟩ := h
              exact ⟨_, _, h, t_append ho hc ea et hel h1 h2 h3 h4 h5 h6 (.inr ⟨rfl, hy⟩) (by cases rid <;> exact hR)⟩
            · exact h.elim
        · exact h.elim
    · rename_i hc
      obtain ⟨ha, ht, h⟩ := h
      have ea := two_of ha (.tmp 0)
      have et := two_of ht 0
      generalize c.args.getD 0 (.tmp 0) = x at *
      generalize c.args.getD 1 (.tmp 0) = y at *
      generalize c.argTypes.getD 0 0 = t at *
      generalize c.argTypes.getD 1 0 = u at *
      unfold cpT at h
      split at h
      · rename_i id f n s m hx
        obtain ⟨h0, h⟩ := h
        unfold cpO at h
        split at h
        · rename_i ob hl
          obtain ⟨h1, h⟩ := h
          have hxop : x ∈ o.op.operands := by rw [ho]; simp [Op.operands, Call.operands, hc, ea]
          have hl1 : lk id (st.tb.setOb id { ob with xs := padTo (f * s) ob.xs }).bx = some { ob with xs := padTo (f * s) ob.xs } := by simp [Tb.setOb, lk_cons]
          have hfl : f * s ≤ (padTo (f * s) ob.xs).length := by rw [padTo_len]; omega
          unfold cpP at h
          split at h
          · rename_i id' f' n' s' m' hy
            obtain ⟨rfl, h⟩ := h
            unfold cpG at h
            split at h
            · rename_i ob' hl'
              exact ⟨_, _, h.2, t_pad hxop hx hl h1 (t_copyV (st := ⟨st.sl, _⟩) ho hc ea et hx hl1 h1 h0 hfl hy hl' rfl h.1)⟩
            · exact h.elim
          · split at h
            · rename_i ys hy
              obtain ⟨h3, h4, h⟩ := h
              exact ⟨_, _, h, t_pad hxop hx hl h1 (t_copyL (st := ⟨st.sl, _⟩) ho hc ea et hx hl1 h1 h0 hfl hy rfl h3 h4)⟩
            · exact h.elim
        · exact h.elim
      · exact h.elim
    · rename_i hc
      obtain ⟨ha, ht, h⟩ := h
      have ea := one_arg ha (.tmp 0)
      have et := one_arg ht 0
      generalize c.args.getD 0 (.tmp 0) = x at *
      generalize c.argTypes.getD 0 0 = t at *
      unfold clT at h
      split at h
      · rename_i e s by_ hel
        split at h
        · rename_i id f n s' m z hx hz
          obtain ⟨rfl, h0, h⟩ := h
          split at h
          · rename_i ob hl
            obtain ⟨h1, h2, h⟩ := h
            exact ⟨_, _, h, t_clearV ho hc ea et hx hl h1 hel h0 hz h2⟩
          · exact h.elim
        · exact h.elim
      · exact h.elim
    · rename_i f hc
      unfold callT at h
      split at h
      · rename_i gf caps hf
        rcases h with ⟨xs, hxs, r, h1, h2⟩ | ⟨ys, ts, r, ts', h1, h2, h3, h4, h5, h6⟩ | ⟨ys, r, h1, h2, h3, h4⟩ | ⟨rfl, ⟨h1, h2, id, of, n, s, m, y, ob, h3, h4, h5, h6, hlow, h7⟩ | ⟨xs, r, h1, h2, h3⟩⟩
        · exact ⟨_, _, h2, TYld.of_A (y_call ho hc hf (by rw [← hxs, List.map_map]; rfl) h1)⟩
        · exact ⟨_, _, h6, t_gcall ho hc hf h1 h2 h3 h4 h5⟩
        · exact ⟨_, _, h4, t_bcall ho hc hf h1 h2 h3⟩
        · exact ⟨_, _, h2, t_ovl ho hc hf h1 h3 h4 h5 h6 hlow h7⟩
        · exact ⟨_, _, h3, t_ext ho hc hf h2 (by rw [← h1, List.map_map]; rfl)⟩
      · exact h.elim
    · rename_i x name hc
      unfold invT at h
      split at h
      · rename_i t av hf
        unfold invG at h
        split at h
        · rename_i gf hm
          obtain ⟨ys, ts, r, ts', h1, h2, h3, h4, h5, h6⟩ := h
          exact ⟨_, _, h6, t_invoke ho hc hf hm h1 (by simpa using h2) h3 h4 h5⟩
        · exact h.elim
      · exact h.elim
    · exact ofQ (by rw [ho]; exact h)
  · exact ofQ h

end
end Go.Av

/-! part AvReg -/
namespace Go.Av
open Go.RowKit

/-- What an operation in a region of open order may touch. 'q': nothing. 'r l': it reads the object of label l. 's l keep': it writes the object of label l, and keeps those. 'f ls': it neither looks at nor writes the objects of those labels. 'w keep': whatever, but it keeps those objects. -/
inductive Cls where
  | q
  | r (l : Nat)
  | s (l : Nat) (keep : List Nat)
  | f (ls : List Nat)
  | w (keep : List Nat)

/-- orders, as a tree: first i, then any of 'sub'; or any of 'sib'. 'one': i touches nothing, so it may come first. -/
inductive OT where
  | lf
  | br (i : Nat) (sub sib : OT)
  | one (i : Nat) (sub : OT)

/-- What is told of a function ahead: the slots whose boxes are written again; the regions' classes; what the labels stand for; how many names there were at the beginning. -/
structure Cx where
  md : List Nat
  cls : List (Nat × List (Nat × Cls))
  lab : List (Nat × Nat)
  nx0 : Nat
  ot : List (Nat × OT)

def Cx.lb (cx : Cx) (l : Nat) : Nat := (lk l cx.lab).getD 0
def Cx.isMd (cx : Cx) (d : Option Tmp) : Bool := match d with | some d => cx.md.contains d | none => false
def clsOf (m : List (Nat × Cls)) (i : Nat) : Cls := (lk i m).getD .q

structure Fr where
  w0 : World
  M0 : Mem
  F : Nat → Prop
  g0 : G
  n : Nat

/-- of what was at the beginning nothing is lost -/
def SatF (fr : Fr) (st : AS) (a : Act) (w : World) : Prop :=
  ∃ g, fr.g0.le g ∧ SatW fr.w0 fr.M0 fr.F st.tb g w ∧ SatS st.sl g a ∧ a.tmps.size = fr.n ∧ a.defers = []

def boolOf : AV → Option Bool
  | .p (.sc (.bool b)) => some b
  | _ => none
/-- Is that what the guard wants? What was passed over is no guard's wish. -/
def wantOf (want : Bool) : AV → Option Bool
  | .p (.sc (.bool b)) => some (b == want)
  | .agg true [] => some false
  | _ => none
/-- what an operation that was passed over leaves -/
def skA : AV := .agg true []
theorem skA_rep {g : G} : RepV g undef skA := .tup .nil
theorem wantOf_some {want : Bool} {x : AV} {b : Bool} (h : wantOf want x = some b) : (∃ c, x = .p (.sc (.bool c)) ∧ b = (c == want)) ∨ x = skA ∧ b = false := by
  unfold wantOf at h
  split at h
  · injection h with h; exact .inl ⟨_, rfl, h.symm⟩
  · injection h with h; exact .inr ⟨rfl, h.symm⟩
  · cases h

/-- Is the operation carried out? -/
def wantedA (ops : Array Oper) (sl : Nat → AV) (o : Oper) : Option Bool :=
  match o.guard with
  | none => some true
  | some (j, want) => match (ops[j]?).bind (·.dst) with
    | some d => wantOf want (sl d)
    | none => none

def dstOk (n : Nat) (o : Oper) : Bool := match o.dst with | some d => decide (d < n) | none => true

section
variable {P : Program} {fr : Fr} {ops : Array Oper}

theorem SatS.put {sl : Nat → AV} {g g' : G} {a : Act} {o : Oper} {v : Value} {x : AV} {n : Nat} (h : SatS sl g a) (hg : g.le g') (hn : a.tmps.size = n) (hd : dstOk n o = true) (hx : RepV g' v x) :
    SatS (putS sl o.dst x) g' (a.put o.dst v) := by
  intro t
  unfold dstOk at hd
  cases ho : o.dst with
  | none => simpa [putS, Act.put] using (h t).mono hg
  | some d =>
    rw [ho] at hd
    simp only [decide_eq_true_eq] at hd
    simp only [putS, Act.put, upd]
    by_cases e : t = d
    · subst e
      simp [hn, hd]; exact hx
    · rw [if_neg e]
      have := (h t).mono hg
      simp only [Array.getD_eq_getD_getElem?] at this ⊢
      rw [Array.getElem?_setIfInBounds_ne (Ne.symm e)]
      exact this

theorem put_size (a : Act) (d : Option Tmp) (v : Value) : (a.put d v).tmps.size = a.tmps.size := by cases d <;> simp [Act.put]
theorem put_def (a : Act) (d : Option Tmp) (v : Value) : (a.put d v).defers = a.defers := by cases d <;> rfl

theorem wanted_ok {sl : Nat → AV} {g : G} {a : Act} {o : Oper} {b : Bool} (h : SatS sl g a) (hw : wantedA ops sl o = some b) : Region.wanted o (yielded ops a.tmps) = b := by
  unfold wantedA at hw
  unfold Region.wanted
  cases hg : o.guard with
  | none => rw [hg] at hw; simpa using hw
  | some jw =>
    obtain ⟨j, want⟩ := jw
    rw [hg] at hw
    simp only at hw ⊢
    cases hd : (ops[j]?).bind (·.dst) with
    | none => rw [hd] at hw; cases hw
    | some d =>
      rw [hd] at hw
      simp only at hw
      have hcase := wantOf_some hw
      have hget : ∀ v, a.tmps.getD d undef = v → v ≠ undef → a.tmps[d]? = some v := fun v this hne => by
        rw [Array.getD_eq_getD_getElem?] at this
        cases hh : a.tmps[d]? with
        | none => rw [hh] at this; exact absurd this.symm hne
        | some v => rw [hh] at this; simpa using this
      have := h d
      rcases hcase with ⟨c, hx, rfl⟩ | ⟨hx, rfl⟩
      · rw [hx] at this
        have := y_nil_sc this
        have hy : yielded ops a.tmps j = some c := by
          unfold yielded
          rw [hd]
          simp only [Option.bind_some]
          rw [hget _ this (by simp [undef])]
        rw [hy]
        cases c <;> cases want <;> rfl
      · rw [hx] at this
        have hv : a.tmps.getD d undef = .tuple #[] := by
          generalize a.tmps.getD d undef = v at this
          cases this with
          | tup hs => cases hs; rfl
        have hy : yielded ops a.tmps j = none := by
          unfold yielded
          rw [hd]
          simp only [Option.bind_some]
          rw [Array.getD_eq_getD_getElem?] at hv
          cases hh : a.tmps[d]? with
          | none => rfl
          | some v => rw [hh] at hv; simp at hv; subst hv; rfl
        rw [hy]
        rfl

theorem sat_skip {st : AS} {a : Act} {w : World} {o : Oper} (h : SatF fr st a w) (hd : dstOk fr.n o = true) : SatF fr (st.put o.dst skA) (a.put o.dst undef) w := by
  obtain ⟨g, h0, h1, h2, h3, h4⟩ := h
  exact ⟨g, h0, h1, h2.put (G.le_refl g) h3 hd skA_rep, by rw [put_size]; exact h3, by rw [put_def]; exact h4⟩

theorem sat_tyld {st : AS} {a : Act} {w : World} {o : Oper} {x : AV} {tb' : Tb} {K : Act → World → Prop} {Q : Exit → Act → World → Prop} (h : SatF fr st a w) (hd : dstOk fr.n o = true) (hy : TYld P st o x tb')
    (hK : ∀ a' w', SatF fr ⟨putS st.sl o.dst x, tb'⟩ a' w' → K a' w') : o.wp P a w K Q := by
  obtain ⟨g, h0, h1, h2, h3, h4⟩ := h
  exact hy fr.w0 fr.M0 fr.F g a w h1 (fun t _ => h2 t) K Q fun v w' g' hM hw' hv => hK _ _ ⟨g', h0.trans hM, hw', h2.put hM h3 hd hv, by rw [put_size]; exact h3, by rw [put_def]; exact h4⟩

/-- A region, in the text's order. -/
def rgW (P : Program) (cx : Cx) (ops : Array Oper) (K : AS → Prop) : List Oper → AS → Prop
  | [], st => K st
  | o :: rest, st => match wantedA ops st.sl o with
    | some true => opT P (cx.isMd o.dst) o.op (evS st.sl) st.tb fun x tb' => rgW P cx ops K rest ⟨putS st.sl o.dst x, tb'⟩
    | some false => rgW P cx ops K rest (st.put o.dst skA)
    | none => False

theorem rg_sound {cx : Cx} {K : AS → Prop} {Q : Exit → Act → World → Prop} (hQ : ∀ st a w, K st → SatF fr st a w → Q .normal a w) :
    ∀ (l : List Oper) (st : AS), l.all (dstOk fr.n) = true → rgW P cx ops K l st → ∀ a w, SatF fr st a w → wpList P ops Q l a w
  | [], st, _, h, a, w, hs => hQ st a w h hs
  | o :: l, st, hd, h, a, w, hs => by
    simp only [List.all_cons, Bool.and_eq_true] at hd
    unfold rgW at h
    have hsS := hs
    obtain ⟨g, _, _, h2, _, _⟩ := hsS
    split at h
    · rename_i hw
      have hw := wanted_ok h2 hw
      unfold wpList
      rw [if_pos hw]
      obtain ⟨x, tb', hx, hy⟩ := opT_yld h
      exact .inl (sat_tyld hs hd.1 hy fun a' w' hs' => rg_sound hQ l _ hd.2 hx a' w' hs')
    · rename_i hw
      have hw := wanted_ok h2 hw
      unfold wpList
      rw [if_neg (by rw [hw]; exact Bool.false_ne_true)]
      exact rg_sound hQ l _ hd.2 h _ _ (sat_skip hs hd.1)
    · exact h.elim

/-! ### whatever order -/

def keeps (cx : Cx) (keep : List Nat) (tb tb' : Tb) : Prop := ∀ l ∈ keep, lk (cx.lb l) tb'.bx = lk (cx.lb l) tb.bx
def offs (cx : Cx) (ls : List Nat) (t u : Tb) : Prop := ∀ i, i ∉ ls.map cx.lb → lk i t.bx = lk i u.bx
/-- the same, to whoever looks -/
structure Tb.eqv (t u : Tb) : Prop where
  rw : t.rw = u.rw
  nx : t.nx = u.nx
  bx : ∀ i, lk i t.bx = lk i u.bx
theorem Tb.eqv_refl (t : Tb) : t.eqv t := ⟨rfl, rfl, fun _ => rfl⟩
theorem Tb.eqv.symm {t u : Tb} (h : t.eqv u) : u.eqv t := ⟨h.rw.symm, h.nx.symm, fun i => (h.bx i).symm⟩
theorem Tb.eqv.trans {t u v : Tb} (h : t.eqv u) (k : u.eqv v) : t.eqv v := ⟨h.rw.trans k.rw, h.nx.trans k.nx, fun i => (h.bx i).trans (k.bx i)⟩
theorem SatW.eqv {w0 : World} {M0 : Mem} {F : Nat → Prop} {t u : Tb} {g : G} {w : World} (h : SatW w0 M0 F t g w) (e : t.eqv u) : SatW w0 M0 F u g w :=
  h.sub (fun i o h => by rw [e.bx i]; exact h) (fun i r h => by rw [e.rw]; exact h) (Nat.le_of_eq e.nx)
theorem TYld.eqv {sl : Nat → AV} {t u t' u' : Tb} {o : Oper} {x : AV} (h : TYld P ⟨sl, t⟩ o x t') (e : t.eqv u) (e' : t'.eqv u') : TYld P ⟨sl, u⟩ o x u' := fun w0 M0 F g a w hw ho K Q hK =>
  h w0 M0 F g a w (hw.eqv e.symm) ho K Q fun v w' g' h1 h2 h3 => hK v w' g' h1 (h2.eqv e') h3
theorem lk_setOb (t : Tb) (i j : Nat) (ob : Ob) : lk i (t.setOb j ob).bx = if i = j then some ob else lk i t.bx := by
  simp only [Tb.setOb, lk_cons]
  split
  · rfl
  · rename_i h; rw [lk_del, if_neg h]
theorem setOb_eqv {t u : Tb} (h : t.eqv u) (i : Nat) (ob : Ob) : (t.setOb i ob).eqv (u.setOb i ob) := ⟨h.rw, h.nx, fun j => by rw [lk_setOb, lk_setOb, h.bx]⟩

/-- what an operation of a class does -/
def Yk (P : Program) (cx : Cx) (sl : Nat → AV) (tb : Tb) (o : Oper) (x : AV) (tb' : Tb) : Cls → Prop
  | .q => tb.eqv tb' ∧ AYld P sl o x
  | .r l => tb.eqv tb' ∧ ∃ ob, lk (cx.lb l) tb.bx = some ob ∧ ∀ t : Tb, lk (cx.lb l) t.bx = some ob → TYld P ⟨sl, t⟩ o x t
  | .s l keep => ∃ ob ob', lk (cx.lb l) tb.bx = some ob ∧ (tb.setOb (cx.lb l) ob').eqv tb' ∧ keeps cx keep tb tb' ∧ ∀ t : Tb, lk (cx.lb l) t.bx = some ob → TYld P ⟨sl, t⟩ o x (t.setOb (cx.lb l) ob')
  | .f ls => keeps cx ls tb tb' ∧ ∀ t t' : Tb, t.rw = tb.rw → t.nx = tb.nx → offs cx ls t tb → t'.rw = tb'.rw → t'.nx = tb'.nx → offs cx ls t' tb' → keeps cx ls t t' → TYld P ⟨sl, t⟩ o x t'
  | .w keep => keeps cx keep tb tb' ∧ TYld P ⟨sl, tb⟩ o x tb'

/-- may they not change places? -/
def conf : Cls → Cls → Bool
  | .q, _ | _, .q => false
  | .r _, .r _ => false
  | .r l, .s _ k | .r l, .w k | .s _ k, .r l | .w k, .r l => !k.contains l
  | .r l, .f k | .f k, .r l | .s l _, .f k | .f k, .s l _ => !k.contains l
  | _, _ => true

theorem Yk.src {cx : Cx} {sl : Nat → AV} {tb u tb' : Tb} {o : Oper} {x : AV} {c : Cls} (h : Yk P cx sl tb o x tb' c) (e : tb.eqv u) : Yk P cx sl u o x tb' c := by
  cases c with
  | q => exact ⟨e.symm.trans h.1, h.2⟩
  | r l => obtain ⟨h0, ob, h1, h2⟩ := h; exact ⟨e.symm.trans h0, ob, by rw [← e.bx]; exact h1, h2⟩
  | s l k =>
    obtain ⟨ob, ob', h1, h2, h3, h4⟩ := h
    exact ⟨ob, ob', by rw [← e.bx]; exact h1, (setOb_eqv e.symm _ _).trans h2, fun l hl => by rw [← e.bx]; exact h3 l hl, h4⟩
  | f ls =>
    refine ⟨fun l hl => by rw [← e.bx]; exact h.1 l hl, fun t t' h1 h2 h3 h4 h5 h6 h7 => h.2 t t' (h1.trans e.rw.symm) (h2.trans e.nx.symm) (fun i hi => (h3 i hi).trans (e.bx i).symm) h4 h5 h6 h7⟩
  | w k => exact ⟨fun l hl => by rw [← e.bx]; exact h.1 l hl, h.2.eqv e (Tb.eqv_refl _)⟩

theorem Yk.tgt {cx : Cx} {sl : Nat → AV} {tb tb' u' : Tb} {o : Oper} {x : AV} {c : Cls} (h : Yk P cx sl tb o x tb' c) (e : tb'.eqv u') : Yk P cx sl tb o x u' c := by
  cases c with
  | q => exact ⟨h.1.trans e, h.2⟩
  | r l => obtain ⟨h0, ob, h1, h2⟩ := h; exact ⟨h0.trans e, ob, h1, h2⟩
  | s l k =>
    obtain ⟨ob, ob', h1, h2, h3, h4⟩ := h
    exact ⟨ob, ob', h1, h2.trans e, fun l hl => by rw [← e.bx]; exact h3 l hl, h4⟩
  | f ls =>
    refine ⟨fun l hl => by rw [← e.bx]; exact h.1 l hl, fun t t' h1 h2 h3 h4 h5 h6 h7 => h.2 t t' h1 h2 h3 (h4.trans e.rw.symm) (h5.trans e.nx.symm) (fun i hi => (h6 i hi).trans (e.bx i).symm) h7⟩
  | w k => exact ⟨fun l hl => by rw [← e.bx]; exact h.1 l hl, h.2.eqv (Tb.eqv_refl _) e⟩

theorem Yk.tyld {cx : Cx} {sl : Nat → AV} {tb tb' : Tb} {o : Oper} {x : AV} {c : Cls} (h : Yk P cx sl tb o x tb' c) : TYld P ⟨sl, tb⟩ o x tb' := by
  cases c with
  | q => obtain ⟨e, h⟩ := h; exact (TYld.of_A (st := ⟨sl, tb⟩) h).eqv (Tb.eqv_refl _) e
  | r l => obtain ⟨e, ob, h1, h2⟩ := h; exact (h2 _ h1).eqv (Tb.eqv_refl _) e
  | s l k => obtain ⟨ob, ob', h1, h2, h3, h4⟩ := h; exact (h4 _ h1).eqv (Tb.eqv_refl _) h2
  | f ls => exact h.2 tb tb' rfl rfl (fun _ _ => rfl) rfl rfl (fun _ _ => rfl) h.1
  | w k => exact h.2

theorem Yk.far {cx : Cx} {sl sl' : Nat → AV} {tb t1 t2 : Tb} {o p : Oper} {x y : AV} {l : Nat} {keep ls : List Nat} (hl : l ∈ ls) (h : Yk P cx sl tb o x t1 (.s l keep)) (k : Yk P cx sl' t1 p y t2 (.f ls)) :
    ∃ t3, Yk P cx sl' tb p y t3 (.f ls) ∧ Yk P cx sl t3 o x t2 (.s l keep) := by
  obtain ⟨ob, ob', h1, h2, h3, h4⟩ := h
  have hk : keeps cx ls t1 t2 := k.1
  have t1i : ∀ i, lk i t1.bx = if i = cx.lb l then some ob' else lk i tb.bx := fun i => by rw [← h2.bx i, lk_setOb]
  -- the far operation first: the table behind it, with the object as it was
  refine ⟨⟨(cx.lb l, ob) :: del (cx.lb l) t2.bx, t2.rw, t2.nx⟩, ⟨?_, ?_⟩, ob, ob', by simp [lk_cons], ?_, ?_, h4⟩
  · intro l' hl'
    show lk (cx.lb l') ((cx.lb l, ob) :: del (cx.lb l) t2.bx) = _
    rw [lk_cons]
    split
    · rename_i e; rw [e]; exact h1.symm
    · rename_i e; rw [lk_del, if_neg e, hk l' hl', t1i, if_neg e]
  · intro t t' g1 g2 g3 g4 g5 g6 g7
    refine k.2 t t' (g1.trans h2.rw) (g2.trans h2.nx) (fun i hi => ?_) g4 g5 (fun i hi => ?_) g7
    · rw [g3 i hi, t1i, if_neg]
      intro e; exact hi (List.mem_map.2 ⟨l, hl, e.symm⟩)
    · rw [g6 i hi]
      show lk i ((cx.lb l, ob) :: del (cx.lb l) t2.bx) = _
      have hne : i ≠ cx.lb l := fun e => hi (List.mem_map.2 ⟨l, hl, e.symm⟩)
      rw [lk_cons, if_neg hne, lk_del, if_neg hne]
  · refine ⟨rfl, rfl, fun i => ?_⟩
    rw [lk_setOb]
    show (if i = cx.lb l then some ob' else lk i ((cx.lb l, ob) :: del (cx.lb l) t2.bx)) = _
    split
    · rename_i e; rw [e, hk l hl, t1i, if_pos rfl]
    · rename_i e; rw [lk_cons, if_neg e, lk_del, if_neg e]
  · intro l' hl'
    show _ = lk (cx.lb l') ((cx.lb l, ob) :: del (cx.lb l) t2.bx)
    rw [lk_cons]
    split
    · rename_i e
      have := h3 l' hl'
      rw [t1i, if_pos e, e, h1] at this
      rw [e, hk l hl, t1i, if_pos rfl]; exact this
    · rename_i e; rw [lk_del, if_neg e]

theorem Yk.far' {cx : Cx} {sl sl' : Nat → AV} {tb t1 t2 : Tb} {o p : Oper} {x y : AV} {l : Nat} {keep ls : List Nat} (hl : l ∈ ls) (h : Yk P cx sl tb o x t1 (.f ls)) (k : Yk P cx sl' t1 p y t2 (.s l keep)) :
    ∃ t3, Yk P cx sl' tb p y t3 (.s l keep) ∧ Yk P cx sl t3 o x t2 (.f ls) := by
  obtain ⟨ob, ob', h1, h2, h3, h4⟩ := k
  have hk : keeps cx ls tb t1 := h.1
  have t2i : ∀ i, lk i t2.bx = if i = cx.lb l then some ob' else lk i t1.bx := fun i => by rw [← h2.bx i, lk_setOb]
  have hold : lk (cx.lb l) tb.bx = some ob := by rw [← hk l hl]; exact h1
  refine ⟨tb.setOb (cx.lb l) ob', ⟨ob, ob', hold, Tb.eqv_refl _, fun l' hl' => ?_, h4⟩, fun l' hl' => ?_, ?_⟩
  · rw [lk_setOb]
    split
    · rename_i e
      have := h3 l' hl'
      rw [t2i, if_pos e, e, h1] at this
      rw [e, hold]; exact this
    · rfl
  · rw [t2i, lk_setOb]
    split
    · rfl
    · exact hk l' hl'
  · intro t t' g1 g2 g3 g4 g5 g6 g7
    refine h.2 t t' g1 g2 (fun i hi => ?_) (g4.trans h2.rw.symm) (g5.trans h2.nx.symm) (fun i hi => ?_) g7
    · have hne : i ≠ cx.lb l := fun e => hi (List.mem_map.2 ⟨l, hl, e.symm⟩)
      rw [g3 i hi, lk_setOb, if_neg hne]
    · have hne : i ≠ cx.lb l := fun e => hi (List.mem_map.2 ⟨l, hl, e.symm⟩)
      rw [g6 i hi, t2i, if_neg hne]

theorem Yk.comm {cx : Cx} {sl sl' : Nat → AV} {tb t1 t2 : Tb} {o p : Oper} {x y : AV} {c d : Cls} (hc : conf c d = false) (h : Yk P cx sl tb o x t1 c) (k : Yk P cx sl' t1 p y t2 d) :
    ∃ t3, Yk P cx sl' tb p y t3 d ∧ Yk P cx sl t3 o x t2 c := by
  by_cases hq : d = .q
  · subst hq
    obtain ⟨e, k⟩ := k
    exact ⟨tb, ⟨Tb.eqv_refl _, k⟩, h.tgt e⟩
  cases c with
  | q =>
    obtain ⟨e, h⟩ := h
    exact ⟨t2, k.src e.symm, Tb.eqv_refl _, h⟩
  | r l =>
    obtain ⟨e, ob, h1, h2⟩ := h
    refine ⟨t2, k.src e.symm, Tb.eqv_refl _, ob, ?_, h2⟩
    have h1' : lk (cx.lb l) t1.bx = some ob := by rw [← e.bx]; exact h1
    cases d with
    | q => exact absurd rfl hq
    | r m => rw [← k.1.bx]; exact h1'
    | s m kp => obtain ⟨_, _, _, _, kk, _⟩ := k; rw [kk l (by simpa [conf] using hc)]; exact h1'
    | f ls => rw [k.1 l (by simpa [conf] using hc)]; exact h1'
    | w kp => rw [k.1 l (by simpa [conf] using hc)]; exact h1'
  | s l kp =>
    cases d with
    | q => exact absurd rfl hq
    | r m =>
      obtain ⟨ek, ob2, k1, k2⟩ := k
      refine ⟨tb, ⟨Tb.eqv_refl _, ob2, ?_, k2⟩, h.tgt ek⟩
      obtain ⟨_, _, _, _, kk, _⟩ := h
      rw [← kk m (by simpa [conf] using hc)]; exact k1
    | s _ _ => simp [conf] at hc
    | f ls => exact Yk.far (by simpa [conf] using hc) h k
    | w _ => simp [conf] at hc
  | f ls =>
    cases d with
    | q => exact absurd rfl hq
    | r m =>
      obtain ⟨ek, ob2, k1, k2⟩ := k
      refine ⟨tb, ⟨Tb.eqv_refl _, ob2, ?_, k2⟩, h.tgt ek⟩
      rw [← h.1 m (by simpa [conf] using hc)]; exact k1
    | s l kp => exact Yk.far' (by simpa [conf] using hc) h k
    | f _ => simp [conf] at hc
    | w _ => simp [conf] at hc
  | w kp =>
    cases d with
    | q => exact absurd rfl hq
    | r m =>
      obtain ⟨ek, ob2, k1, k2⟩ := k
      refine ⟨tb, ⟨Tb.eqv_refl _, ob2, ?_, k2⟩, h.tgt ek⟩
      rw [← h.1 m (by simpa [conf] using hc)]; exact k1
    | s _ _ => simp [conf] at hc
    | f _ => simp [conf] at hc
    | w _ => simp [conf] at hc

theorem TYld.congr {sl sl' : Nat → AV} {tb tb' : Tb} {o : Oper} {x : AV} (h : TYld P ⟨sl, tb⟩ o x tb') (hs : ∀ t, Operand.tmp t ∈ o.op.operands → sl' t = sl t) : TYld P ⟨sl', tb⟩ o x tb' :=
  fun w0 M0 F g a w hw ho K Q hK => h w0 M0 F g a w hw (fun t ht => by have := ho t ht; simp only at this ⊢; rw [← hs t ht]; exact this) K Q hK
theorem AYld.congr {sl sl' : Nat → AV} {o : Oper} {x : AV} (h : AYld P sl o x) (hs : ∀ t, Operand.tmp t ∈ o.op.operands → sl' t = sl t) : AYld P sl' o x :=
  fun w0 M0 F tb g a w hw ho K Q hK => h w0 M0 F tb g a w hw (fun t ht => by rw [← hs t ht]; exact ho t ht) K Q hK
theorem Yk.congr {cx : Cx} {sl sl' : Nat → AV} {tb tb' : Tb} {o : Oper} {x : AV} {c : Cls} (h : Yk P cx sl tb o x tb' c) (hs : ∀ t, Operand.tmp t ∈ o.op.operands → sl' t = sl t) : Yk P cx sl' tb o x tb' c := by
  cases c with
  | q => exact ⟨h.1, h.2.congr hs⟩
  | r l => obtain ⟨e, ob, h1, h2⟩ := h; exact ⟨e, ob, h1, fun t e => (h2 t e).congr hs⟩
  | s l k => obtain ⟨ob, ob', h1, h2, h3, h4⟩ := h; exact ⟨ob, ob', h1, h2, h3, fun t e => (h4 t e).congr hs⟩
  | f ls => exact ⟨h.1, fun t t' g1 g2 g3 g4 g5 g6 g7 => (h.2 t t' g1 g2 g3 g4 g5 g6 g7).congr hs⟩
  | w k => exact ⟨h.1, h.2.congr hs⟩

theorem putS_ne (sl : Nat → AV) (d : Option Tmp) (x : AV) {t : Tmp} (h : d ≠ some t) : putS sl d x t = sl t := by
  cases d with
  | none => rfl
  | some e => simp only [putS, upd]; rw [if_neg (fun he => h (by rw [he]))]

theorem putS_comm (sl : Nat → AV) {x y : Option Tmp} (v u : AV) (h : ∀ d, x = some d → y ≠ some d) : putS (putS sl x v) y u = putS (putS sl y u) x v := by
  cases x with
  | none => rfl
  | some d =>
    cases y with
    | none => rfl
    | some e => simp only [putS]; rw [upd_comm _ _ _ fun he => h d rfl (by rw [he])]

theorem looks_op {o o' : Oper} (hap : ∀ d, o'.dst = some d → d ∉ o.looksAt ops) (sl : Nat → AV) (y : AV) : ∀ t, Operand.tmp t ∈ o.op.operands → putS sl o'.dst y t = sl t := fun t ht =>
  putS_ne _ _ _ fun he => hap t he (List.mem_append_left _ (List.mem_filterMap.2 ⟨.tmp t, by simpa using ht, rfl⟩))

theorem wantedA_put {sl : Nat → AV} {o : Oper} {d : Option Tmp} {y : AV} (hap : ∀ e, d = some e → e ∉ o.looksAt ops) : wantedA ops (putS sl d y) o = wantedA ops sl o := by
  unfold wantedA
  cases hg : o.guard with
  | none => rfl
  | some jw =>
    obtain ⟨j, want⟩ := jw
    simp only
    cases ht : (ops[j]?).bind (·.dst) with
    | none => rfl
    | some t =>
      simp only
      rw [putS_ne _ _ _ fun he => hap t he (by simp [Oper.looksAt, hg, ht])]

/-- what the operation does, or that it is passed over -/
def YldA (P : Program) (cx : Cx) (ops : Array Oper) (c : Cls) (o : Oper) (x : AV) (sl : Nat → AV) (tb tb' : Tb) : Prop :=
  (wantedA ops sl o = some true ∧ Yk P cx sl tb o x tb' c) ∨ (wantedA ops sl o = some false ∧ x = skA ∧ tb' = tb)

theorem YldA.congr {cx : Cx} {c : Cls} {o o' : Oper} {x y : AV} {sl : Nat → AV} {tb tb' : Tb} (h : YldA P cx ops c o x sl tb tb') (hap : ∀ d, o'.dst = some d → d ∉ o.looksAt ops) : YldA P cx ops c o x (putS sl o'.dst y) tb tb' := by
  unfold YldA at *
  rw [wantedA_put hap]
  exact h.imp (fun ⟨a, b⟩ => ⟨a, b.congr (looks_op hap sl y)⟩) id
theorem YldA.uncongr {cx : Cx} {c : Cls} {o o' : Oper} {x y : AV} {sl : Nat → AV} {tb tb' : Tb} (h : YldA P cx ops c o x (putS sl o'.dst y) tb tb') (hap : ∀ d, o'.dst = some d → d ∉ o.looksAt ops) : YldA P cx ops c o x sl tb tb' := by
  unfold YldA at *
  rw [wantedA_put hap] at h
  exact h.imp (fun ⟨a, b⟩ => ⟨a, b.congr fun t ht => (looks_op hap sl y t ht).symm⟩) id

theorem YldA.comm {cx : Cx} {c d : Cls} {o p : Oper} {x y : AV} {sl : Nat → AV} {tb t1 t2 : Tb} (hc : conf c d = false) (hap : o.apart ops p = true) (h : YldA P cx ops c o x sl tb t1) (k : YldA P cx ops d p y (putS sl o.dst x) t1 t2) :
    ∃ t3, YldA P cx ops d p y sl tb t3 ∧ YldA P cx ops c o x (putS sl p.dst y) t3 t2 := by
  obtain ⟨h1, h2, h3⟩ := Oper.apart_spec hap
  have k' := k.uncongr h1
  rcases h with ⟨hw, hy⟩ | ⟨hw, rfl, rfl⟩
  · rcases k' with ⟨kw, ky⟩ | ⟨kw, rfl, rfl⟩
    · obtain ⟨t3, e1, e2⟩ := hy.comm hc ky
      exact ⟨t3, .inl ⟨kw, e1⟩, YldA.congr (.inl ⟨hw, e2⟩) h3⟩
    · exact ⟨tb, .inr ⟨kw, rfl, rfl⟩, YldA.congr (.inl ⟨hw, hy⟩) h3⟩
  · exact ⟨t2, k', YldA.congr (.inr ⟨hw, rfl, rfl⟩) h3⟩

/-- Operation number 'i' comes up. -/
def aOp (P : Program) (cx : Cx) (m : List (Nat × Cls)) (ops : Array Oper) (i : Nat) (K : AS → Prop) (st : AS) : Prop :=
  match ops[i]? with
  | none => K st
  | some o => ∃ x tb', YldA P cx ops (clsOf m i) o x st.sl st.tb tb' ∧ K ⟨putS st.sl o.dst x, tb'⟩

def wpAnyA (P : Program) (cx : Cx) (m : List (Nat × Cls)) (ops : Array Oper) (K : AS → Prop) : Nat → Array Bool → AS → Prop
  | 0, listed, st => Region.ready .any ops listed = [] ∧ K st
  | fuel + 1, listed, st =>
    (Region.ready .any ops listed = [] → K st) ∧
    ∀ i ∈ Region.ready .any ops listed, aOp P cx m ops i (wpAnyA P cx m ops K fuel (listed.setIfInBounds i true)) st

theorem wpOp_of_aOp {cx : Cx} {m : List (Nat × Cls)} {i : Nat} {st : AS} {a : Act} {w : World} {K : AS → Prop} {K' : Act → World → Prop} {Q : Exit → Act → World → Prop} (hd : ops.all (dstOk fr.n) = true) (hs : SatF fr st a w)
    (hK : ∀ st a w, K st → SatF fr st a w → K' a w) (h : aOp P cx m ops i K st) : wpOp P ops Q i K' a w := by
  unfold aOp at h
  unfold wpOp
  cases ho : ops[i]? with
  | none => rw [ho] at h; exact hK _ _ _ h hs
  | some o =>
    rw [ho] at h
    simp only at h ⊢
    have hdo : dstOk fr.n o = true := by
      have := Array.all_eq_true.1 hd
      obtain ⟨hi, e⟩ := Array.getElem?_eq_some_iff.1 ho
      rw [← e]; exact this i hi
    have hsS := hs
    obtain ⟨g, _, _, h2, _, _⟩ := hsS
    obtain ⟨x, tb', ⟨hw, hy⟩ | ⟨hw, rfl, rfl⟩, hk⟩ := h
    · rw [if_pos (wanted_ok h2 hw)]
      exact .inl (sat_tyld (st := st) hs hdo hy.tyld fun a' w' hs' => hK _ _ _ hk hs')
    · rw [if_neg (by rw [wanted_ok h2 hw]; exact Bool.false_ne_true)]
      exact hK _ _ _ hk (sat_skip hs hdo)

theorem wpAny_of_A {cx : Cx} {m : List (Nat × Cls)} {K : AS → Prop} {Q : Exit → Act → World → Prop} (hd : ops.all (dstOk fr.n) = true) (hQ : ∀ st a w, K st → SatF fr st a w → Q .normal a w) :
    ∀ (fuel : Nat) (listed : Array Bool) (st : AS), wpAnyA P cx m ops K fuel listed st → ∀ a w, SatF fr st a w → wpAny P .any ops Q fuel listed a w
  | 0, _, _, h, a, w, hs => ⟨h.1, hQ _ _ _ h.2 hs⟩
  | fuel + 1, _, _, h, a, w, hs => ⟨fun h0 => hQ _ _ _ (h.1 h0) hs, fun i hi => wpOp_of_aOp hd hs (fun st a w h' hs' => wpAny_of_A hd hQ fuel _ st h' a w hs') (h.2 i hi)⟩

/-- does j come after i, whatever the order? -/
def dep (ops : Array Oper) (i : Nat) : Nat → Nat → Bool
  | 0, _ => false
  | f + 1, j => match ops[j]? with
    | some o => o.after.any fun e => Region.binds .any e && (e.on == i || dep ops i f e.on)
    | none => false

/-- what is listed has all listed that it comes after -/
def Down (ops : Array Oper) (listed : Array Bool) : Prop :=
  ∀ j oj, ops[j]? = some oj → listed.getD j false = true → ∀ e ∈ oj.after, Region.binds .any e = true → listed.getD e.on false = true

theorem dep_listed {listed : Array Bool} (hD : Down ops listed) {i : Nat} : ∀ (f j : Nat), (∀ oj, ops[j]? = some oj → ∀ e ∈ oj.after, Region.binds .any e = true → listed.getD e.on false = true) → dep ops i f j = true → listed.getD i false = true
  | 0, _, _, h => by simp [dep] at h
  | f + 1, j, hj, h => by
    unfold dep at h
    split at h
    · rename_i o ho
      obtain ⟨e, he, h⟩ := Array.any_eq_true'.1 h
      simp only [Bool.and_eq_true, Bool.or_eq_true, beq_iff_eq] at h
      obtain ⟨hb, h⟩ := h
      have h1 := hj o ho e he hb
      rcases h with h | h
      · rw [← h]; exact h1
      · exact dep_listed hD f e.on (fun ok hk => hD e.on ok hk h1) h
    · cases h

theorem Down.set {listed : Array Bool} (hD : Down ops listed) {i : Nat} (hi : i ∈ Region.ready .any ops listed) : Down ops (listed.setIfInBounds i true) := by
  have up : ∀ k, listed.getD k false = true → (listed.setIfInBounds i true).getD k false = true := fun k hk => by
    by_cases hik : i = k
    · subst hik
      rcases Nat.lt_or_ge i listed.size with h' | h'
      · simp [h']
      · simp [Array.getElem?_eq_none h'] at hk
    · rw [getD_set_ne false hik]; exact hk
  intro j oj hj hl e he hb
  obtain ⟨_, oi, hoi, hall⟩ := mem_ready.1 hi
  by_cases hij : i = j
  · subst hij
    rw [hj] at hoi; injection hoi with hoi; subst hoi
    exact up _ (hall e he hb)
  · rw [getD_set_ne false hij] at hl
    exact up _ (hD j oj hj hl e he hb)

theorem wpAnyA_first {cx : Cx} {m : List (Nat × Cls)} {K : AS → Prop} {i : Nat} {oi : Oper} {x : AV} (hi : ops[i]? = some oi) (N : Nat) :
    ∀ (fuel : Nat) (listed : Array Bool) (st : AS) (tb' : Tb), Down ops listed →
      (∀ j oj, ops[j]? = some oj → j ≠ i → listed.getD j true = false → (∀ e ∈ oj.after, Region.binds .any e = true → e.on ≠ i) → oi.apart ops oj = true) →
      (∀ j oj, ops[j]? = some oj → j ≠ i → listed.getD j true = false → conf (clsOf m i) (clsOf m j) = true → dep ops i N j = true) →
      i ∈ Region.ready .any ops listed → YldA P cx ops (clsOf m i) oi x st.sl st.tb tb' →
      wpAnyA P cx m ops K fuel (listed.setIfInBounds i true) ⟨putS st.sl oi.dst x, tb'⟩ → wpAnyA P cx m ops K (fuel + 1) listed st := by
  have first : ∀ {st : AS} {tb' : Tb} {K' : AS → Prop}, YldA P cx ops (clsOf m i) oi x st.sl st.tb tb' → K' ⟨putS st.sl oi.dst x, tb'⟩ → aOp P cx m ops i K' st := fun hy hk => by
    unfold aOp; rw [hi]; exact ⟨x, _, hy, hk⟩
  intro fuel
  induction fuel with
  | zero =>
    intro listed st tb' _ _ _ hr hy H
    refine ⟨fun h => (by rw [h] at hr; cases hr), fun j hj => ?_⟩
    by_cases hji : j = i
    · subst hji; exact first hy H
    · have := ready_mono hj hji
      rw [H.1] at this
      cases this
  | succ fuel ih =>
    intro listed st tb' hD hfree hconf hr hy H
    refine ⟨fun h => (by rw [h] at hr; cases hr), fun j hj => ?_⟩
    by_cases hji : j = i
    · subst hji; exact first hy H
    · have h1 := H.2 j (ready_mono hj hji)
      obtain ⟨hjun, oj, hoj, hall⟩ := mem_ready.1 hj
      have hiun := (mem_ready.1 hr).1
      have nlist : listed.getD i false = true → False := fun h1 => by
        rcases Nat.lt_or_ge i listed.size with h' | h'
        · simp [h'] at hiun h1; rw [hiun] at h1; cases h1
        · simp [Array.getElem?_eq_none h'] at hiun
      have hnot : ∀ e ∈ oj.after, Region.binds .any e = true → e.on ≠ i := fun e he hb heq => nlist (heq ▸ hall e he hb)
      have hcf : conf (clsOf m i) (clsOf m j) = false := by
        cases hc : conf (clsOf m i) (clsOf m j) with
        | false => rfl
        | true =>
          have hd := hconf j oj hoj hji hjun hc
          exact (nlist (dep_listed hD N j (fun ok hk e he hb => by rw [hoj] at hk; injection hk with hk; subst hk; exact hall e he hb) hd)).elim
      unfold aOp at h1
      rw [hoj] at h1
      obtain ⟨u, t2, hu, hk⟩ := h1
      obtain ⟨t3, e1, e2⟩ := YldA.comm hcf (hfree j oj hoj hji hjun hnot) hy hu
      unfold aOp
      rw [hoj]
      refine ⟨u, t3, e1, ?_⟩
      have lift : ∀ k, (listed.setIfInBounds j true).getD k true = false → listed.getD k true = false := fun k hun => by
        by_cases hjk : j = k
        · subst hjk; exact hjun
        · rw [getD_set_ne true hjk] at hun; exact hun
      refine ih (listed.setIfInBounds j true) ⟨putS st.sl oj.dst u, t3⟩ t2 (hD.set hj) (fun k ok hk hki hun hno => hfree k ok hk hki (lift k hun) hno) (fun k ok hk hki hun hc => hconf k ok hk hki (lift k hun) hc) (ready_mono hr (Ne.symm hji)) e2 ?_
      obtain ⟨p1, p2, p3⟩ := Oper.apart_spec (hfree j oj hoj hji hjun hnot)
      have hk' : wpAnyA P cx m ops K fuel ((listed.setIfInBounds i true).setIfInBounds j true) ⟨putS (putS st.sl oi.dst x) oj.dst u, t2⟩ := hk
      rw [putS_comm st.sl x u p2, Array.setIfInBounds_comm _ _ (Ne.symm hji)] at hk'
      exact hk'

end
end Go.Av

/-! part AvReg2 -/
namespace Go.Av
open Go.RowKit

/-- a call that has nothing to do with the objects of those labels -/
def fcallW (P : Program) (cx : Cx) (ls : List Nat) (gf : FuncId) (caps : List PC) (args : List AV) (tb : Tb) (k : AV → Tb → Prop) : Prop :=
  ∃ ys ts r ts', toAll args ys ∧ GenC P gf (ys ++ caps.map .p) ts r ts' ∧ sub1 tb.bx ts.bx ∧ sub1 tb.rw ts.rw ∧ ts.nx = tb.nx ∧ (∀ l ∈ ls, lk (cx.lb l) ts.bx = none ∧ lk (cx.lb l) ts'.bx = none) ∧ k r (tb.merge ts ts')
def fcallT (P : Program) (cx : Cx) (ls : List Nat) (args : List AV) (tb : Tb) (k : AV → Tb → Prop) : AV → Prop
  | .p (.fn (.func gf) caps) => fcallW P cx ls gf caps args tb k
  | _ => False

def stoW (P : Program) (cx : Cx) (l : Nat) (t : TypeId) (tb : Tb) (k : AV → Tb → Prop) (y : AV) : AV → Prop
  | .obj id off => id = cx.lb l ∧ storeT P t tb k (.obj id off) y
  | _ => False

def readW (P : Program) (cx : Cx) (l : Nat) (t : TypeId) (tb : Tb) (k : AV → Tb → Prop) : AV → Prop
  | .obj id off => id = cx.lb l ∧ loadT P t tb k (.obj id off)
  | _ => False

def keepK (cx : Cx) (keep : List Nat) (tb : Tb) (k : AV → Tb → Prop) : AV → Tb → Prop := fun x tb' => keeps cx keep tb tb' ∧ k x tb'

def ykW (P : Program) (cx : Cx) (md : Bool) (op : Op) (e : Operand → AV) (tb : Tb) (k : AV → Tb → Prop) : Cls → Prop
  | .q => opR P op e fun y => k y tb
  | .r l => match op with
    | .load t x => readW P cx l t tb k (e x)
    | _ => False
  | .s l keep => match op with
    | .store t x y => stoW P cx l t tb (keepK cx keep tb k) (e y) (e x)
    | _ => False
  | .f ls => match op with
    | .call c => (match c.callee with
      | .builtin .append => c.args.size = 2 ∧ c.argTypes.size = 2 ∧ appT P (c.argTypes.getD 1 0) tb k (e (c.args.getD 0 (.tmp 0))) (e (c.args.getD 1 (.tmp 0))).nm (elTy P (c.argTypes.getD 0 0))
      | .value f => fcallT P cx ls (c.args.toList.map e) tb k (e f).nm
      | _ => False)
    | _ => False
  | .w keep => opT P md op e tb (keepK cx keep tb k)

/-- A region of open order. -/
def rgD (P : Program) (cx : Cx) (m : List (Nat × Cls)) (ops : Array Oper) (K : AS → Prop) : Nat → List Oper → AS → Prop
  | _, [], st => K st
  | i, o :: rest, st => match wantedA ops st.sl o with
    | some true => ykW P cx (cx.isMd o.dst) o.op (evS st.sl) st.tb (fun x tb' => rgD P cx m ops K (i + 1) rest ⟨putS st.sl o.dst x, tb'⟩) (clsOf m i)
    | some false => rgD P cx m ops K (i + 1) rest (st.put o.dst skA)
    | none => False

/-- those that may not change places come one after the other -/
def chainB (m : List (Nat × Cls)) (ops : Array Oper) (n : Nat) : Bool :=
  (List.range n).all fun i => (List.range n).all fun j => !(decide (i < j) && conf (clsOf m i) (clsOf m j)) || dep ops i n j

section
variable {P : Program} {fr : Fr} {ops : Array Oper}

theorem app_yld {c : Call} {sl : Nat → AV} {tb : Tb} {o : Oper} {k : AV → Tb → Prop} (ho : o.op = .call c) (hc : c.callee = .builtin .append) (ha : c.args.size = 2) (ht : c.argTypes.size = 2)
    (h : appT P (c.argTypes.getD 1 0) tb k (evS sl (c.args.getD 0 (.tmp 0))) (evS sl (c.args.getD 1 (.tmp 0))).nm (elTy P (c.argTypes.getD 0 0))) :
    ∃ x rid e sz, k x (appTb tb rid e sz) ∧ ∀ bx, TYld P ⟨sl, ⟨bx, tb.rw, tb.nx⟩⟩ o x (appTb ⟨bx, tb.rw, tb.nx⟩ rid e sz) := by
  have ea := two_of ha (.tmp 0)
  have et := two_of ht 0
  generalize c.args.getD 0 (.tmp 0) = x at *
  generalize c.args.getD 1 (.tmp 0) = y at *
  generalize c.argTypes.getD 0 0 = t at *
  generalize c.argTypes.getD 1 0 = u at *
  unfold appT at h
  split at h
  · rename_i e sz by_ hel
    cases hX : appX tb.rw e sz (evS sl x) with
    | none => rw [hX] at h; exact h.elim
    | some q =>
      obtain ⟨rid, xs⟩ := q
      rw [hX] at h
      have hR := appX_spec hX
      unfold appY at h
      simp only at h
      split at h
      · rename_i s hy
        obtain ⟨rfl, h1, h2, h3, h4, h⟩ := h
        exact ⟨_, rid, e, 1, h, fun bx => t_appendS (st := ⟨sl, ⟨bx, tb.rw, tb.nx⟩⟩) ho hc ea et hel h1 h2 h3 h4 hy (by cases rid <;> exact hR)⟩
      · rename_i ys hy
        obtain ⟨h1, h2, h3, h4, h5, h6, h⟩ := h
        exact ⟨_, rid, e, sz, h, fun bx => t_append (st := ⟨sl, ⟨bx, tb.rw, tb.nx⟩⟩) ho hc ea et hel h1 h2 h3 h4 h5 h6 (.inl hy) (by cases rid <;> exact hR)⟩
      · rename_i hy
        obtain ⟨h1, h2, h3, h4, h5, h6, h⟩ := h
        exact ⟨_, rid, e, sz, h, fun bx => t_append (st := ⟨sl, ⟨bx, tb.rw, tb.nx⟩⟩) ho hc ea et hel h1 h2 h3 h4 h5 h6 (.inr ⟨rfl, hy⟩) (by cases rid <;> exact hR)⟩
      · exact h.elim
  · exact h.elim

theorem lk_app {α : Type} {i : Nat} : ∀ (a b : List (Nat × α)), lk i (a ++ b) = match lk i a with | some o => some o | none => lk i b
  | [], b => rfl
  | (j, p) :: a, b => by
    simp only [List.cons_append, lk]
    split
    · rfl
    · exact lk_app a b
theorem lk_dels {α : Type} {i : Nat} : ∀ (s l : List (Nat × α)), lk i (delAll s l) = match lk i s with | some _ => none | none => lk i l
  | [], l => rfl
  | (j, p) :: s, l => by
    simp only [delAll, lk_del, lk]
    split
    · rfl
    · exact lk_dels s l
theorem lk_merge {tb ts ts' : Tb} {i : Nat} : lk i (tb.merge ts ts').bx = match lk i ts'.bx with | some o => some o | none => (match lk i ts.bx with | some _ => none | none => lk i tb.bx) := by
  simp only [Tb.merge, lk_app, lk_dels]
  cases lk i ts'.bx <;> cases lk i ts.bx <;> rfl
theorem sub1_mono {α : Type} {bx cx : List (Nat × α)} : ∀ (l : List (Nat × α)), sub1 bx l → (∀ i o, lk i l = some o → lk i bx = some o → lk i cx = some o) → (∀ p ∈ l, lk p.1 l = some p.2 ∨ True) → (∀ p ∈ l, lk p.1 bx = lk p.1 cx) → sub1 cx l
  | [], _, _, _, _ => trivial
  | (i, o) :: l, h, h2, h3, h4 => ⟨by have := h4 (i, o) (by simp); simp only at this; rw [← this]; exact h.1, sub1_mono l h.2 (fun j p e f => by
      by_cases hij : ∃ q ∈ l, q.1 = j
      · obtain ⟨q, hq, rfl⟩ := hij; rw [← h4 q (by simp [hq])]; exact f
      · exfalso
        have : ∀ (l : List (Nat × α)), (¬ ∃ q ∈ l, q.1 = j) → lk j l = none := by
          intro l
          induction l with
          | nil => intro _; rfl
          | cons q l ih => intro hn; obtain ⟨a, b⟩ := q; simp only [lk]; rw [if_neg (fun e => hn ⟨(a, b), by simp, e.symm⟩)]; exact ih fun ⟨q, hq, e⟩ => hn ⟨q, by simp [hq], e⟩
        rw [this l hij] at e; cases e) (fun _ _ => .inr trivial) (fun p hp => h4 p (by simp [hp]))⟩

theorem ykW_yld {cx : Cx} {md : Bool} {sl : Nat → AV} {tb : Tb} {o : Oper} {k : AV → Tb → Prop} : ∀ (c : Cls), ykW P cx md o.op (evS sl) tb k c → ∃ x tb', k x tb' ∧ Yk P cx sl tb o x tb' c
  | .q, h => by obtain ⟨x, h1, h2⟩ := opR_yld h; exact ⟨x, tb, h1, Tb.eqv_refl _, h2⟩
  | .r l, h => by
    unfold ykW at h
    simp only at h
    split at h
    · rename_i t x ho
      unfold readW at h
      split at h
      · rename_i id off hx
        obtain ⟨hid, h⟩ := h
        unfold loadT at h
        simp only at h
        split at h
        · rename_i ob ag s hl ha hs
          split at h
          · rename_i y hp
            exact ⟨y, tb, h, Tb.eqv_refl _, ob, by rw [← hid]; exact hl, fun t' hl' => t_load (st := ⟨sl, t'⟩) ho hx (by rw [hid]; exact hl') ha hs hp⟩
          · exact h.elim
        · exact h.elim
      · exact h.elim
    · exact h.elim
  | .s l keep, h => by
    unfold ykW at h
    simp only at h
    split at h
    · rename_i t x y ho
      unfold stoW at h
      split at h
      · rename_i id off hx
        obtain ⟨hid, h⟩ := h
        unfold storeT at h
        split at h
        · rename_i id2 off2 zs he hy
          injection he with he1 he2; subst he1; subst he2
          split at h
          · rename_i ob hl
            obtain ⟨h1, h2, h3, h4⟩ := h
            subst hid
            exact ⟨.any, _, h4, ob, _, hl, Tb.eqv_refl _, h3, fun t' hl' => t_store (st := ⟨sl, t'⟩) ho hx hl' hy h1 h2⟩
          · exact h.elim
        · exact h.elim
      · exact h.elim
    · exact h.elim
  | .f ls, h => by
    unfold ykW at h
    simp only at h
    split at h
    · rename_i c ho
      split at h
      · rename_i hc
        obtain ⟨ha, ht, h⟩ := h
        obtain ⟨x, rid, e, sz, h1, h2⟩ := app_yld ho hc ha ht h
        refine ⟨x, _, h1, fun l _ => rfl, fun t t' g1 g2 g3 g4 g5 g6 g7 => ?_⟩
        refine (h2 t.bx).eqv ⟨g1.symm, g2.symm, fun _ => rfl⟩ ⟨?_, ?_, fun i => ?_⟩
        · rw [g4]; rfl
        · rw [g5]; rfl
        · show lk i t.bx = lk i t'.bx
          by_cases hi : i ∈ ls.map cx.lb
          · obtain ⟨l, hl, rfl⟩ := List.mem_map.1 hi; exact (g7 l hl).symm
          · rw [g6 i hi, g3 i hi]; rfl
      · rename_i f hc
        unfold fcallT at h
        split at h
        · rename_i gf caps hf
          obtain ⟨ys, ts, r, ts', h1, h2, h3, h4, h5, h6, h7⟩ := h
          refine ⟨r, _, h7, fun l hl => ?_, fun t t' g1 g2 g3 g4 g5 g6 g7 => ?_⟩
          · rw [lk_merge, (h6 l hl).2, (h6 l hl).1]
          · have hnot : ∀ p ∈ ts.bx, p.1 ∉ ls.map cx.lb := fun p hp hm => by
              obtain ⟨l, hl, e⟩ := List.mem_map.1 hm
              have := (h6 l hl).1
              rw [e] at this
              have key : ∀ (l : List (Nat × Ob)), p ∈ l → lk p.1 l ≠ none := by
                intro l
                induction l with
                | nil => intro h; cases h
                | cons q l ih =>
                  intro h; obtain ⟨a, b⟩ := q
                  simp only [lk]
                  split
                  · simp
                  · rename_i hne
                    rcases List.mem_cons.1 h with h | h
                    · subst h; exact absurd rfl hne
                    · exact ih h
              exact key _ hp this
            have hsub : sub1 t.bx ts.bx := sub1_mono ts.bx h3 (fun i o e f => by
              by_cases hi : i ∈ ls.map cx.lb
              · obtain ⟨l, hl, e2⟩ := List.mem_map.1 hi
                rw [← e2, (h6 l hl).1] at e; cases e
              · rw [g3 i hi]; exact f) (fun _ _ => .inr trivial) (fun p hp => (g3 p.1 (hnot p hp)).symm)
            refine (t_gcall (st := ⟨sl, t⟩) (ts := ts) (ts' := ts') ho hc hf h1 h2 hsub (by rw [g1]; exact h4) (h5.trans g2.symm)).eqv (Tb.eqv_refl _) ⟨?_, ?_, fun i => ?_⟩
            · rw [g4]; simp only [Tb.merge, g1]
            · rw [g5]; rfl
            · by_cases hi : i ∈ ls.map cx.lb
              · obtain ⟨l, hl, rfl⟩ := List.mem_map.1 hi
                rw [lk_merge, (h6 l hl).2, (h6 l hl).1, g7 l hl]
              · rw [g6 i hi, lk_merge, lk_merge, g3 i hi]
        · exact h.elim
      · exact h.elim
    · exact h.elim
  | .w keep, h => by
    obtain ⟨x, tb', ⟨h1, h2⟩, h3⟩ := opT_yld (st := ⟨sl, tb⟩) (o := o) h
    exact ⟨x, tb', h2, h1, h3⟩

theorem chain_spec {m : List (Nat × Cls)} {n : Nat} (h : chainB m ops n = true) {i j : Nat} (hi : i < n) (hj : j < n) (hij : i < j) (hc : conf (clsOf m i) (clsOf m j) = true) : dep ops i n j = true := by
  unfold chainB at h
  have h1 := List.all_eq_true.1 h i (List.mem_range.2 hi)
  have h2 := List.all_eq_true.1 h1 j (List.mem_range.2 hj)
  simpa [hij, hc] using h2

/-- what a walk in the text's order finds, step by step -/
def rgE (P : Program) (cx : Cx) (m : List (Nat × Cls)) (ops : Array Oper) (K : AS → Prop) : Nat → List Oper → AS → Prop
  | _, [], st => K st
  | k, o :: l, st => ∃ x tb', YldA P cx ops (clsOf m k) o x st.sl st.tb tb' ∧ rgE P cx m ops K (k + 1) l ⟨putS st.sl o.dst x, tb'⟩
theorem rgE_of_rgD {cx : Cx} {m : List (Nat × Cls)} {K : AS → Prop} : ∀ (l : List Oper) (k : Nat) (st : AS), rgD P cx m ops K k l st → rgE P cx m ops K k l st
  | [], _, _, h => h
  | o :: l, k, st, h => by
    unfold rgD at h
    split at h
    · rename_i hw
      obtain ⟨x, tb', h1, h2⟩ := ykW_yld _ h
      exact ⟨x, tb', .inl ⟨hw, h2⟩, rgE_of_rgD l _ _ h1⟩
    · rename_i hw
      exact ⟨skA, st.tb, .inr ⟨hw, rfl, rfl⟩, rgE_of_rgD l _ _ h⟩
    · exact h.elim
theorem rgE_append {cx : Cx} {m : List (Nat × Cls)} {K K1 : AS → Prop} (l2 : List Oper) : ∀ (l1 : List Oper) (k : Nat) (st : AS), rgE P cx m ops K1 k l1 st → (∀ st', K1 st' → rgE P cx m ops K (k + l1.length) l2 st') → rgE P cx m ops K k (l1 ++ l2) st
  | [], _, _, h, hk => hk _ h
  | o :: l1, k, st, ⟨x, tb', h1, h2⟩, hk => ⟨x, tb', h1, rgE_append l2 l1 (k + 1) _ h2 fun st' h' => by have := hk st' h'; rwa [List.length_cons, show k + (l1.length + 1) = k + 1 + l1.length by omega] at this⟩

theorem wpAnyA_lex {cx : Cx} {m : List (Nat × Cls)} {K : AS → Prop} (hch : chainB m ops ops.size = true) : ∀ (l : List Oper) (k : Nat) (listed : Array Bool) (st : AS), (∀ j, l[j]? = ops[k + j]?) → Down ops listed →
    (∀ j, j < k → j < ops.size → listed.getD j true = true) → listed.size = ops.size →
    Region.lexFrom .any ops l.length k listed = true → rgE P cx m ops K k l st → wpAnyA P cx m ops K l.length listed st
  | [], _, _, _, _, _, _, _, hB, h => ⟨by simpa [Region.lexFrom] using hB, h⟩
  | o :: l, k, listed, st, hl, hD, hlt, hsz, hB, h => by
    have h0 : ops[k]? = some o := by simpa using (hl 0).symm
    have hk : k < ops.size := (Array.getElem?_eq_some_iff.1 h0).1
    simp only [List.length_cons, Region.lexFrom, Bool.and_eq_true] at hB
    obtain ⟨⟨hr, hf⟩, hB'⟩ := hB
    have hr' : k ∈ Region.ready .any ops listed := by simpa using hr
    obtain ⟨x, tb', hy, hK⟩ := h
    refine wpAnyA_first h0 ops.size l.length listed st tb' hD (Region.free_spec h0 hf) (fun j oj hj hjk hun hc => ?_) hr' hy ?_
    · have hjs : j < ops.size := (Array.getElem?_eq_some_iff.1 hj).1
      refine chain_spec hch hk hjs ?_ hc
      rcases Nat.lt_or_ge j k with hlt' | hge
      · rw [hlt j hlt' hjs] at hun; cases hun
      · omega
    · refine wpAnyA_lex hch l (k + 1) _ _ (fun j => by have := hl (j + 1); simpa [Nat.add_assoc, Nat.add_comm 1 j] using this) (hD.set hr') (fun j hj hjs => ?_) (by simpa using hsz) hB' hK
      by_cases hjk : k = j
      · subst hjk; simp [hsz, hk]
      · rw [getD_set_ne true hjk]; exact hlt j (by omega) hjs

end
end Go.Av

/-! part AvCode -/
namespace Go.Av
open Go.RowKit

def Fresh (fr : Fr) (nx0 : Nat) : Prop := ∀ i, nx0 ≤ i → fr.g0.ob i = none ∧ fr.g0.rv i = none

/-- Whatever the first speaks of, the second does. -/
def AS.le (nx0 : Nat) (st st' : AS) : Prop := ∀ fr a w, Fresh fr nx0 → SatF fr st a w → SatF fr st' a w

theorem AS.le_refl (nx0 : Nat) (st : AS) : st.le nx0 st := fun _ _ _ _ h => h
theorem AS.le.trans {nx0 : Nat} {a b c : AS} (h : a.le nx0 b) (k : b.le nx0 c) : a.le nx0 c := fun fr x w hf hs => k fr x w hf (h fr x w hf hs)

def mOf (cls : List (Nat × List (Nat × Cls))) (id : Nat) : List (Nat × Cls) := (lk id cls).getD []
def Cx.m (cx : Cx) (id : Nat) : List (Nat × Cls) := mOf cx.cls id

/-- operation number i, whatever stands behind it -/
def wkO (P : Program) (cx : Cx) (ops : Array Oper) (K : AS → Prop) (st : AS) : Option Oper → Prop
  | some o => match wantedA ops st.sl o with
    | some true => opT P (cx.isMd o.dst) o.op (evS st.sl) st.tb fun x tb' => K ⟨putS st.sl o.dst x, tb'⟩
    | some false => K (st.put o.dst skA)
    | none => False
  | none => False
def wkQ (P : Program) (ops : Array Oper) (K : AS → Prop) (st : AS) : Option Oper → Prop
  | some o => match wantedA ops st.sl o with
    | some true => opR P o.op (evS st.sl) fun x => K ⟨putS st.sl o.dst x, st.tb⟩
    | some false => K (st.put o.dst skA)
    | none => False
  | none => False
/-- each order of a tree is walked -/
def walkT (P : Program) (cx : Cx) (ops : Array Oper) (K : AS → Prop) : OT → Bool → AS → Prop
  | .lf, b, st => if b = true then K st else True
  | .br i sub sib, _, st => wkO P cx ops (walkT P cx ops K sub true) st ops[i]? ∧ walkT P cx ops K sib false st
  | .one i sub, _, st => wkQ P ops (walkT P cx ops K sub true) st ops[i]?
/-- the operations that change places -/
def brs : OT → List Nat
  | .lf => []
  | .br i sub sib => i :: (brs sub ++ brs sib)
  | .one _ sub => brs sub
def mT (t : OT) : List (Nat × Cls) := (brs t).map fun i => (i, .w [])
def isQ : Cls → Bool
  | .q => true
  | _ => false
/-- is it the tree of all orders? -/
def treeB (m : List (Nat × Cls)) (ops : Array Oper) : OT → Nat → Array Bool → List Nat → Bool
  | .lf, _, _, rs => rs.isEmpty
  | .br _ _ _, 0, _, _ => false
  | .br i sub sib, f + 1, listed, rs => match rs with
    | r :: rs' => decide (r = i) && (treeB m ops sub f (listed.setIfInBounds i true) (Region.ready .any ops (listed.setIfInBounds i true)) && treeB m ops sib (f + 1) listed rs')
    | [] => false
  | .one _ _, 0, _, _ => false
  | .one i sub, f + 1, listed, rs => decide (rs = Region.ready .any ops listed) && (Region.ready .any ops listed).contains i && Region.free .any ops listed i && isQ (clsOf m i) &&
      treeB m ops sub f (listed.setIfInBounds i true) (Region.ready .any ops (listed.setIfInBounds i true))
def rgDC (P : Program) (cx : Cx) (m : List (Nat × Cls)) (ops : Array Oper) (K : AS → Prop) : List Nat → Nat → List Oper → AS → Prop
  | [], k, l, st => ∃ K' : AS → Prop, (∀ st', K' st' → K st') ∧ rgD P cx m ops K' k l st
  | n :: ns, k, l, st => ∃ K' : AS → Prop, (∀ st', K' st' → rgDC P cx m ops K ns (k + (l.take n).length) (l.drop n) st') ∧ rgD P cx m ops K' k (l.take n) st
def regX (P : Program) (cx : Cx) (m : List (Nat × Cls)) (ops : Array Oper) (K : AS → Prop) (st : AS) : Option OT → Prop
  | some .lf => ∃ ns : List Nat, rgDC P cx m ops K ns 0 ops.toList st
  | some (.br i s t) => walkT P cx ops K (.br i s t) true st
  | some (.one i s) => walkT P cx ops K (.one i s) true st
  | none => rgD P cx m ops K 0 ops.toList st
def regB (cls : List (Nat × List (Nat × Cls))) (id : Nat) (ops : Array Oper) : Option OT → Bool
  | some (.br i s t) => treeB (mT (.br i s t)) ops (.br i s t) ops.size (Array.replicate ops.size false) (Region.ready .any ops (Array.replicate ops.size false))
  | some (.one i s) => treeB (mT (.one i s)) ops (.one i s) ops.size (Array.replicate ops.size false) (Region.ready .any ops (Array.replicate ops.size false))
  | some .lf => Region.lexB .any ops && chainB (mOf cls id) ops ops.size
  | none => Region.lexB .any ops && chainB (mOf cls id) ops ops.size
section
variable {P : Program} {ops : Array Oper}
theorem rgE_of_rgDC {cx : Cx} {m : List (Nat × Cls)} {K : AS → Prop} : ∀ (ns : List Nat) (k : Nat) (l : List Oper) (st : AS), rgDC P cx m ops K ns k l st → rgE P cx m ops K k l st
  | [], k, l, st, ⟨K', hK, h⟩ => by
    have := rgE_append (P := P) (ops := ops) (cx := cx) (m := m) (K := K) [] l k st (rgE_of_rgD l k st h) (fun st' h' => hK st' h')
    rwa [List.append_nil] at this
  | n :: ns, k, l, st, ⟨K', hK, h⟩ => by
    have := rgE_append (P := P) (ops := ops) (cx := cx) (m := m) (K := K) (l.drop n) (l.take n) k st (rgE_of_rgD _ k st h) (fun st' h' => rgE_of_rgDC ns _ _ st' (hK st' h'))
    rwa [List.take_append_drop] at this
end

section
variable {P : Program} {fr : Fr} {ops : Array Oper}
theorem aOp_of_wkO {cx : Cx} {m : List (Nat × Cls)} {i : Nat} {st : AS} {K K' : AS → Prop} (hm : clsOf m i = .w []) (hK : ∀ st, K st → K' st) (h : wkO P cx ops K st ops[i]?) : aOp P cx m ops i K' st := by
  unfold aOp
  cases ho : ops[i]? with
  | none => rw [ho] at h; exact h.elim
  | some o =>
    rw [ho] at h
    unfold wkO at h
    simp only at h ⊢
    split at h
    · rename_i hw
      obtain ⟨x, tb', h1, h2⟩ := opT_yld h
      refine ⟨x, tb', .inl ⟨hw, ?_⟩, hK _ h1⟩
      rw [hm]
      exact ⟨fun l hl => by simp at hl, h2⟩
    · rename_i hw
      exact ⟨skA, st.tb, .inr ⟨hw, rfl, rfl⟩, hK _ h⟩
    · exact h.elim

theorem walkA {cx : Cx} {m : List (Nat × Cls)} {K : AS → Prop} : ∀ (t : OT), (∀ i ∈ brs t, clsOf m i = .w []) →
    (∀ (f : Nat) (listed : Array Bool) (st : AS), Down ops listed → treeB m ops t f listed (Region.ready .any ops listed) = true → walkT P cx ops K t true st → wpAnyA P cx m ops K f listed st) ∧
    (∀ (f : Nat) (listed : Array Bool) (rs : List Nat) (b : Bool) (st : AS), Down ops listed → (∀ i ∈ rs, i ∈ Region.ready .any ops listed) → treeB m ops t (f + 1) listed rs = true → walkT P cx ops K t b st → ∀ i ∈ rs, aOp P cx m ops i (wpAnyA P cx m ops K f (listed.setIfInBounds i true)) st)
  | .lf, _ => by
    refine ⟨fun f listed st hD hB h => ?_, fun f listed rs b st hD hrs hB h i hi => ?_⟩
    · have h0 : Region.ready .any ops listed = [] := by simpa [treeB] using hB
      have hk : K st := by simpa [walkT] using h
      cases f with
      | zero => exact ⟨h0, hk⟩
      | succ f => exact ⟨fun _ => hk, fun i hi => by rw [h0] at hi; cases hi⟩
    · have h0 : rs = [] := by simpa [treeB] using hB
      subst h0; cases hi
  | .br j sub sib, hm => by
    have key : ∀ (f : Nat) (listed : Array Bool) (rs : List Nat) (b : Bool) (st : AS), Down ops listed → (∀ i ∈ rs, i ∈ Region.ready .any ops listed) → treeB m ops (.br j sub sib) (f + 1) listed rs = true → walkT P cx ops K (.br j sub sib) b st → ∀ i ∈ rs, aOp P cx m ops i (wpAnyA P cx m ops K f (listed.setIfInBounds i true)) st := by
      intro f listed rs b st hD hrs hB h i hi
      unfold treeB at hB
      cases rs with
      | nil => cases hi
      | cons r rs' =>
        simp only [Bool.and_eq_true, decide_eq_true_eq] at hB
        obtain ⟨rfl, h1, h2⟩ := hB
        unfold walkT at h
        rcases List.mem_cons.1 hi with rfl | hi
        · exact aOp_of_wkO (hm _ (by simp [brs])) (fun st h' => (walkA sub fun i hi => hm i (by simp [brs, hi])).1 f _ st (hD.set (hrs _ (by simp))) h1 h') h.1
        · exact (walkA sib fun i hi => hm i (by simp [brs, hi])).2 f listed rs' false st hD (fun i hi => hrs i (by simp [hi])) h2 h.2 i hi
    refine ⟨fun f listed st hD hB h => ?_, key⟩
    cases f with
    | zero => unfold treeB at hB; cases hB
    | succ f =>
      refine ⟨fun h0 => ?_, key f listed _ true st hD (fun i hi => hi) hB h⟩
      rw [h0] at hB
      unfold treeB at hB
      cases hB
  | .one j sub, hm => by
    have key : ∀ (f : Nat) (listed : Array Bool) (rs : List Nat) (b : Bool) (st : AS), Down ops listed → treeB m ops (.one j sub) f listed rs = true → walkT P cx ops K (.one j sub) b st → rs = Region.ready .any ops listed ∧ wpAnyA P cx m ops K f listed st := by
      intro f listed rs b st hD hB h
      cases f with
      | zero => unfold treeB at hB; cases hB
      | succ f =>
        unfold treeB at hB
        simp only [Bool.and_eq_true, decide_eq_true_eq] at hB
        obtain ⟨⟨⟨⟨h1, h2⟩, h3⟩, h4⟩, h5⟩ := hB
        have hr : j ∈ Region.ready .any ops listed := by simpa using h2
        have hq : clsOf m j = .q := by
          cases hc : clsOf m j with
          | q => rfl
          | _ => rw [hc] at h4; cases h4
        refine ⟨h1, ?_⟩
        unfold walkT at h
        cases ho : ops[j]? with
        | none => rw [ho] at h; exact h.elim
        | some o =>
          rw [ho] at h
          unfold wkQ at h
          simp only at h
          have fin : ∀ {x : AV}, YldA P cx ops (clsOf m j) o x st.sl st.tb st.tb → walkT P cx ops K sub true ⟨putS st.sl o.dst x, st.tb⟩ → wpAnyA P cx m ops K (f + 1) listed st := fun hy hk =>
            wpAnyA_first ho ops.size f listed st _ hD (Region.free_spec ho h3) (fun k ok hk hkj hun hc => by rw [hq] at hc; simp [conf] at hc) hr hy ((walkA sub fun i hi => hm i (by simpa [brs] using hi)).1 f _ _ (hD.set hr) h5 hk)
          split at h
          · rename_i hw
            obtain ⟨x, h6, h7⟩ := opR_yld h
            exact fin (.inl ⟨hw, by rw [hq]; exact ⟨Tb.eqv_refl _, h7⟩⟩) h6
          · rename_i hw
            exact fin (x := skA) (.inr ⟨hw, rfl, rfl⟩) h
          · exact h.elim
    refine ⟨fun f listed st hD hB h => (key f listed _ true st hD hB h).2, fun f listed rs b st hD hrs hB h i hi => ?_⟩
    obtain ⟨e, hA⟩ := key (f + 1) listed rs b st hD hB h
    exact hA.2 i (e ▸ hi)

theorem mT_w (t : OT) : ∀ i ∈ brs t, clsOf (mT t) i = .w [] := by
  intro i hi
  unfold clsOf mT
  generalize brs t = L at hi ⊢
  induction L with
  | nil => cases hi
  | cons j l ih =>
    simp only [List.map_cons, lk]
    split
    · rfl
    · rename_i hne
      rcases List.mem_cons.1 hi with rfl | hi
      · exact absurd rfl hne
      · exact ih hi

theorem walk_sound {cx : Cx} {K : AS → Prop} {Q : Exit → Act → World → Prop} (hd : ops.all (dstOk fr.n) = true) (hQ : ∀ st a w, K st → SatF fr st a w → Q .normal a w) (t : OT) (f : Nat) (listed : Array Bool) (st : AS) (hD : Down ops listed)
    (hB : treeB (mT t) ops t f listed (Region.ready .any ops listed) = true) (h : walkT P cx ops K t true st) (a : Act) (w : World) (hs : SatF fr st a w) : wpAny P .any ops Q f listed a w :=
  wpAny_of_A hd hQ _ _ _ ((walkA t (mT_w t)).1 f listed st hD hB h) a w hs
end

/-- What is looked at once a function: each temporary has its place, each open order may be walked as the text has it. -/
def codeOk (cls : List (Nat × List (Nat × Cls))) (ot : List (Nat × OT)) (n : Nat) : Code → Bool
  | .region id ops d => ops.all (dstOk n) && (!d || regB cls id ops (lk id ot))
  | .seq a b => codeOk cls ot n a && codeOk cls ot n b
  | .cond _ a b => codeOk cls ot n a && codeOk cls ot n b
  | .block _ c => codeOk cls ot n c
  | .loop c => codeOk cls ot n c
  | _ => true

/-- a region whose tree is a leaf may be cut: what holds behind it is told, the rest is shown of whatever it holds of -/
def isLf : Option OT → Bool
  | some .lf => true
  | _ => false
def rgC (P : Program) (cx : Cx) (ops : Array Oper) (K : AS → Prop) : List Nat → List Oper → AS → Prop
  | [], l, st => ∃ K' : AS → Prop, (∀ st', K' st' → K st') ∧ rgW P cx ops K' l st
  | n :: ns, l, st => ∃ K' : AS → Prop, (∀ st', K' st' → rgC P cx ops K ns (l.drop n) st') ∧ rgW P cx ops K' (l.take n) st
def regF (P : Program) (cx : Cx) (ops : Array Oper) (K : AS → Prop) (st : AS) : Bool → Prop
  | true => ∃ ns : List Nat, rgC P cx ops K ns ops.toList st
  | false => rgW P cx ops K ops.toList st

section
variable {P : Program} {fr : Fr} {ops : Array Oper}
theorem rg_soundA {cx : Cx} {K : AS → Prop} {Q : Exit → Act → World → Prop} (l2 : List Oper) (hQ : ∀ st a w, K st → SatF fr st a w → wpList P ops Q l2 a w) :
    ∀ (l : List Oper) (st : AS), l.all (dstOk fr.n) = true → rgW P cx ops K l st → ∀ a w, SatF fr st a w → wpList P ops Q (l ++ l2) a w
  | [], st, _, h, a, w, hs => hQ st a w h hs
  | o :: l, st, hd, h, a, w, hs => by
    simp only [List.all_cons, Bool.and_eq_true] at hd
    unfold rgW at h
    have hsS := hs
    obtain ⟨g, _, _, h2, _, _⟩ := hsS
    rw [List.cons_append]
    split at h
    · rename_i hw
      have hw := wanted_ok h2 hw
      unfold wpList
      rw [if_pos hw]
      obtain ⟨x, tb', hx, hy⟩ := opT_yld h
      exact .inl (sat_tyld hs hd.1 hy fun a' w' hs' => rg_soundA l2 hQ l _ hd.2 hx a' w' hs')
    · rename_i hw
      have hw := wanted_ok h2 hw
      unfold wpList
      rw [if_neg (by rw [hw]; exact Bool.false_ne_true)]
      exact rg_soundA l2 hQ l _ hd.2 h _ _ (sat_skip hs hd.1)
    · exact h.elim
theorem rgC_sound {cx : Cx} {K : AS → Prop} {Q : Exit → Act → World → Prop} (hQ : ∀ st a w, K st → SatF fr st a w → Q .normal a w) :
    ∀ (ns : List Nat) (l : List Oper) (st : AS), l.all (dstOk fr.n) = true → rgC P cx ops K ns l st → ∀ a w, SatF fr st a w → wpList P ops Q l a w
  | [], l, st, hd, h, a, w, hs => by
    obtain ⟨K', hK, h⟩ := h
    exact rg_sound (K := K') (fun st a w h1 h2 => hQ st a w (hK st h1) h2) l st hd h a w hs
  | n :: ns, l, st, hd, h, a, w, hs => by
    obtain ⟨K', hK, h⟩ := h
    have h1 : (l.take n).all (dstOk fr.n) = true := List.all_eq_true.2 fun x hx => List.all_eq_true.1 hd x (List.mem_of_mem_take hx)
    have h2 : (l.drop n).all (dstOk fr.n) = true := List.all_eq_true.2 fun x hx => List.all_eq_true.1 hd x (List.mem_of_mem_drop hx)
    have := rg_soundA (Q := Q) (l.drop n) (fun st a w h3 h4 => rgC_sound hQ ns (l.drop n) st h2 (hK st h3) a w h4) (l.take n) st h1 h a w hs
    rwa [List.take_append_drop] at this
end

def aw (P : Program) (cx : Cx) : Code → AS → (Exit → AS → Prop) → Prop
  | .skip, st, Q => Q .normal st
  | .region id ops d, st, Q => match d with
    | true => regX P cx (cx.m id) ops (Q .normal) st (lk id cx.ot)
    | false => regF P cx ops (Q .normal) st (isLf (lk id cx.ot))
  | .seq a b, st, Q => aw P cx a st fun e st' => match e with
    | .normal => aw P cx b st' Q
    | e => Q e st'
  | .cond c a b, st, Q => match evS st.sl c with
    | .p (.sc (.bool t)) => if t = true then aw P cx a st Q else aw P cx b st Q
    | _ => False
  | .block id c, st, Q => aw P cx c st fun e st' => match e with
    | .exit j => if j = id then Q .normal st' else Q (.exit j) st'
    | e => Q e st'
  | .loop c, st, Q => ∃ (I : Nat → AS → Prop) (H : Nat → Exit → AS → Prop) (n0 : Nat), (∃ st0, st.le cx.nx0 st0 ∧ I n0 st0) ∧ (∀ n st1, I n st1 → aw P cx c st1 (H n)) ∧
    ∀ n e st', H n e st' → match e with
    | .normal => ∃ n' st'', n' < n ∧ st'.le cx.nx0 st'' ∧ I n' st''
    | e => Q e st'
  | .exit id, st, Q => Q (.exit id) st
  | .ret, st, Q => Q .ret st
  | _, _, _ => False

section
variable {P : Program} {fr : Fr}

/-- what a walk of the code shows -/
def Post (fr : Fr) (Q : Exit → AS → Prop) : Exit → Act → World → Prop := fun e a w => ∃ st, Q e st ∧ SatF fr st a w

theorem aw_sound (hm : P.follows .mixedOrders = true) {cx : Cx} (hfr : Fresh fr cx.nx0) : ∀ (c : Code) (st : AS) (Q : Exit → AS → Prop), codeOk cx.cls cx.ot fr.n c = true → aw P cx c st Q → ∀ a w, SatF fr st a w → c.wp P (Post fr Q) a w
  | .skip, st, Q, _, h, a, w, hs => wp_skip ⟨st, h, hs⟩
  | .region id ops d, st, Q, hk, h, a, w, hs => by
    simp only [codeOk, Bool.and_eq_true, Bool.or_eq_true, Bool.not_eq_true'] at hk
    cases d with
    | true =>
      simp only [aw] at h
      have hR : regB cx.cls id ops (lk id cx.ot) = true := by simpa using hk.2
      have hs' : SatF fr st a { w with drawn := w.drawn + 1 } := by
        obtain ⟨g, h0, h1, h2, h3, h4⟩ := hs
        exact ⟨g, h0, h1.drew, h2, h3, h4⟩
      have key : (Region.lexB .any ops && chainB (mOf cx.cls id) ops ops.size) = true → rgE P cx (cx.m id) ops (Q .normal) 0 ops.toList st → (Code.region id ops true).wp P (Post fr Q) a w := by
        intro hR h
        refine wp_region_any hm ?_
        simp only [Bool.and_eq_true] at hR
        obtain ⟨hB, hC⟩ := hR
        simp only [Region.lexB, Bool.and_eq_true] at hB
        have hA := wpAnyA_lex (P := P) (ops := ops) hC ops.toList 0 (Array.replicate ops.size false) st (by simp)
          (fun j oj hj hl => by
            simp only [Array.getD_eq_getD_getElem?] at hl
            rw [Array.getElem?_replicate] at hl
            split at hl <;> simp at hl) (fun j hj _ => by omega) (by simp) (by simpa using hB.2) h
        have := wpAny_of_A (Q := Post fr Q) hk.1 (fun st a w h1 h2 => ⟨st, h1, h2⟩) _ _ _ hA a _ hs'
        simpa using this
      have hD0 : Down ops (Array.replicate ops.size false) := fun j oj hj hl => by
        simp only [Array.getD_eq_getD_getElem?] at hl
        rw [Array.getElem?_replicate] at hl
        split at hl <;> simp at hl
      cases ht : lk id cx.ot with
      | some t =>
        rw [ht] at h hR
        cases t with
        | lf =>
          obtain ⟨ns, h⟩ := h
          exact key hR (rgE_of_rgDC ns 0 _ _ h)
        | br i s t =>
          refine wp_region_any hm ?_
          exact walk_sound (Q := Post fr Q) hk.1 (fun st a w h1 h2 => ⟨st, h1, h2⟩) (.br i s t) _ _ st hD0 hR h a _ hs'
        | one i s =>
          refine wp_region_any hm ?_
          exact walk_sound (Q := Post fr Q) hk.1 (fun st a w h1 h2 => ⟨st, h1, h2⟩) (.one i s) _ _ st hD0 hR h a _ hs'
      | none =>
        rw [ht] at h hR
        exact key hR (rgE_of_rgD _ _ _ h)
    | false =>
      simp only [aw] at h
      unfold regF at h
      split at h
      · obtain ⟨ns, h⟩ := h
        exact wp_region_list (rgC_sound (Q := Post fr Q) (fun st a w h1 h2 => ⟨st, h1, h2⟩) ns _ st (by simpa using hk.1) h a w hs)
      · exact wp_region_list (rg_sound (Q := Post fr Q) (fun st a w h1 h2 => ⟨st, h1, h2⟩) _ st (by simpa using hk.1) h a w hs)
  | .seq x y, st, Q, hk, h, a, w, hs => by
    simp only [codeOk, Bool.and_eq_true] at hk
    simp only [aw] at h
    refine wp_seq (wp_mono (aw_sound hm hfr x st _ hk.1 h a w hs) ?_)
    rintro e a' w' ⟨st', hq, hs'⟩
    cases e with
    | normal => exact aw_sound hm hfr y st' Q hk.2 hq a' w' hs'
    | _ => exact ⟨st', hq, hs'⟩
  | .cond c x y, st, Q, hk, h, a, w, hs => by
    simp only [codeOk, Bool.and_eq_true] at hk
    simp only [aw] at h
    have hsS := hs
    obtain ⟨g, _, _, h2, _, _⟩ := hsS
    split at h
    · rename_i t hc
      have hv : a.eval c = .bool t := by
        have := repV_ev (a := a) c (fun t _ => h2 t)
        rw [hc] at this
        exact y_nil_sc this
      cases t with
      | true => exact wp_cond_true hv (aw_sound hm hfr x st Q hk.1 (by simpa using h) a w hs)
      | false => exact wp_cond_false hv (aw_sound hm hfr y st Q hk.2 (by simpa using h) a w hs)
    · exact h.elim
  | .block id c, st, Q, hk, h, a, w, hs => by
    simp only [codeOk] at hk
    simp only [aw] at h
    refine wp_block (wp_mono (aw_sound hm hfr c st _ hk h a w hs) ?_)
    rintro e a' w' ⟨st', hq, hs'⟩
    cases e with
    | exit j =>
      simp only [Exit.inBlock] at hq ⊢
      split
      · rename_i e; rw [if_pos e] at hq; exact ⟨st', hq, hs'⟩
      · rename_i e; rw [if_neg e] at hq; exact ⟨st', hq, hs'⟩
    | _ => exact ⟨st', hq, hs'⟩
  | .loop c, st, Q, hk, h, a, w, hs => by
    simp only [codeOk] at hk
    simp only [aw] at h
    obtain ⟨I, H, n0, ⟨st0, hle, hI⟩, hround, hH⟩ := h
    refine wp_loop_ghost (fun k a w => ∃ st, I k st ∧ SatF fr st a w) n0 ⟨st0, hI, hle _ _ _ hfr hs⟩ ?_
    rintro k a w ⟨st1, hI1, hs1⟩
    refine wp_mono (aw_sound hm hfr c st1 _ hk (hround k st1 hI1) a w hs1) ?_
    rintro e a' w' ⟨st', hq, hs'⟩
    have hq := hH _ _ _ hq
    cases e with
    | normal => obtain ⟨n', st'', h1, h2, h3⟩ := hq; exact ⟨n', h1, st'', h3, h2 _ _ _ hfr hs'⟩
    | _ => exact ⟨st', hq, hs'⟩
  | .exit id, st, Q, _, h, a, w, hs => wp_exit ⟨st, h, hs⟩
  | .ret, st, Q, _, h, a, w, hs => wp_ret ⟨st, h, hs⟩
  | .rangeFunc _ _ _ _, _, _, _, h, _, _, _ => h.elim
  | .scope _, _, _, _, h, _, _, _ => h.elim
  | .label _, _, _, _, h, _, _, _ => h.elim
  | .goto _, _, _, _, h, _, _, _ => h.elim
  | .refuse _, _, _, _, h, _, _, _ => h.elim

/-! ### functions -/

def initSl : List AV → Nat → Nat → AV
  | [], _ => fun _ => .any
  | x :: l, k => upd (initSl l (k + 1)) k x
def initS (xs : List AV) (tb : Tb) : AS := ⟨initSl xs 0, tb⟩

/-- what the results hold -/
def resA (P : Program) (st : AS) : List ResultVar → Option (List AV)
  | [] => some []
  | .tmp t :: l => match resA P st l with
    | some zs => some (st.sl t :: zs)
    | none => none
  | .cell t ty :: l => match cellA (st.sl t) ty, resA P st l with
    | some z, some zs => some (z :: zs)
    | _, _ => none
where cellA : AV → TypeId → Option AV
  | .obj id off, ty => match lk id st.tb.bx, tyAgg P ty, tySize P ty with
    | some ob, some ag, some s => partA off s ag ob.xs
    | _, _, _ => none
  | .p (.ref x), ty => if fits P ty x = true then some (.p x) else none
  | _, _ => none

def packA : List AV → AV
  | [x] => x
  | l => .agg true l
def packR : List PC → PC
  | [x] => x
  | l => .agg true l

def retW (P : Program) (R : List AV → Tb → Prop) (tb : Tb) : Option (List AV) → Prop
  | some zs => R zs tb
  | none => False
def QRet (P : Program) (fn : Func) (R : List AV → Tb → Prop) : Exit → AS → Prop
  | .normal, st => retW P R st.tb (resA P st fn.results.toList)
  | .ret, st => retW P R st.tb (resA P st fn.results.toList)
  | _, _ => False

theorem initSl_rep {g : G} : ∀ (xs : List AV) (vs : List Value) (k : Nat), RepVs g vs xs → ∀ t, RepV g ((vs[t - k]?).getD undef) (if k ≤ t then initSl xs k t else .any)
  | [], _, k, _, t => by
    have : (if k ≤ t then initSl [] k t else AV.any) = .any := by split <;> rfl
    rw [this]; exact .any _
  | x :: xs, _, k, .cons (v := v) (vs := vs) h hs, t => by
    by_cases hk : k ≤ t
    · rw [if_pos hk]
      simp only [initSl, upd]
      by_cases e : t = k
      · subst e; simp; exact h
      · rw [if_neg e]
        have := initSl_rep xs vs (k + 1) hs t
        rw [if_pos (by omega)] at this
        rw [show t - k = (t - (k + 1)) + 1 by omega, List.getElem?_cons_succ]
        exact this
    · rw [if_neg hk]; exact .any _

theorem initSl_any : ∀ (xs : List AV) (k t : Nat), k + xs.length ≤ t → initSl xs k t = .any := by
  intro xs
  induction xs with
  | nil => intro k t _; rfl
  | cons x xs ih => intro k t hk; simp only [List.length_cons] at hk; simp only [initSl, upd]; rw [if_neg (by omega), ih (k + 1) t (by omega)]

def packV : List Value → Value
  | [v] => v
  | l => .tuple l.toArray

def resF (tmps : Array Value) : ResultVar → Sem Value
  | .tmp t => pure (tmps.getD t undef)
  | .cell a t => do loadVar t (← asAddr (tmps.getD a undef))

theorem mapM_cons_run {f : ResultVar → Sem Value} {r : ResultVar} {rs : List ResultVar} {v : Value} {vs : List Value} {w : World} (h1 : (f r).run P w = .ok v w) (h2 : (rs.mapM f).run P w = .ok vs w) :
    ((r :: rs).mapM f).run P w = .ok (v :: vs) w := by
  simp only [List.mapM_cons, Sem.run_bind, Sem.run_pure, h1, h2, Result.andThen_ok]

theorem run_loadVar_obj {w0 : World} {M0 : Mem} {F : Nat → Prop} {tb : Tb} {g : G} {w : World} (hw : SatW w0 M0 F tb g w) {id off b c s : Nat} {ag : Bool} {ob : Ob} {t : TypeId} {y : AV} (he : g.ob id = some (b, c)) (hl : lk id tb.bx = some ob)
    (ht : tyAgg P t = some ag) (hs : tySize P t = some s) (hp : partA off s ag ob.xs = some y) : ∃ u, (loadVar t ⟨b, off, none⟩).run P w = .ok u w ∧ RepV g u y := by
  have hbox := hw.boxes id ob hl
  by_cases hne : ob.xs = []
  · unfold partA at hp
    rw [hne] at hp
    cases ag with
    | true =>
      simp only [if_true] at hp
      split at hp
      · rename_i hle
        injection hp with hp; subst hp
        simp only [List.length_nil, Nat.le_zero] at hle
        obtain ⟨rfl, rfl⟩ : off = 0 ∧ s = 0 := by omega
        exact ⟨.agg #[], by simp [loadVar, run_isAgg ht, run_sizeOf hs, loadCells, loadCellsFrom], by simpa using RepV.agg (g := g) (vs := []) (xs := []) .nil (by simp)⟩
      · cases hp
    | false => simp at hp
  have hcp := hbox.pos he hne
  obtain ⟨cur, f2, f3, ⟨tt, fz, f4, fo⟩, f5, f6, f7, f8, f9⟩ := hbox.real he hcp
  generalize b = b' at *
  have cell : ∀ j u, cur[j]? = some u → w.cell? ⟨b', j, none⟩ = some u := fun j u e => by unfold World.cell?; rw [f4]; simpa using e
  have hlen := f8.length
  unfold partA at hp
  cases ag with
  | true =>
    simp only [if_true] at hp
    split at hp
    · rename_i hle
      injection hp with hp; subst hp
      have hcl : off + s ≤ cur.toList.length := by simp; omega
      have hls : ((cur.toList.drop off).take s).length = s := by rw [List.length_take, List.length_drop]; omega
      have hrun := run_loadCells_list (P := P) w ⟨b', off, none⟩ ((cur.toList.drop off).take s) (fun j u e => by
        rw [Addr.add_lit]
        rw [List.getElem?_take] at e
        split at e
        · rw [List.getElem?_drop] at e; exact cell _ _ (by simpa using e)
        · cases e)
      rw [hls] at hrun
      have e3 : ((cur.toList.take ob.xs.length).drop off).take s = (cur.toList.drop off).take s := by
        rw [List.drop_take, List.take_take, Nat.min_eq_left (by omega)]
      have hr2 : RepVs g ((cur.toList.drop off).take s) ((ob.xs.drop off).take s) := by
        have := (f8.drop off).take s
        rw [e3] at this; exact this
      refine ⟨.agg ((cur.toList.drop off).take s).toArray, ?_, .agg hr2 (fun u hu => f9 u ?_)⟩
      · simp [loadVar, run_isAgg ht, run_sizeOf hs, hrun]
      · rw [← e3] at hu
        exact List.mem_of_mem_take (List.mem_of_mem_drop (List.mem_of_mem_take hu))
    · cases hp
  | false =>
    simp only [Bool.false_eq_true, if_false] at hp
    split at hp
    · obtain ⟨u, hu, hr⟩ := f8.get hp
      have hu' : cur[off]? = some u := by
        rw [List.getElem?_take] at hu
        split at hu
        · simpa using hu
        · cases hu
      exact ⟨u, by simp [loadVar, run_isAgg ht, load, Sem.run, cell _ _ hu'], hr⟩
    · cases hp

theorem res_run {w0 : World} {M0 : Mem} {F : Nat → Prop} {st : AS} {g : G} {a : Act} {w : World} (hs : SatS st.sl g a) (hw : SatW w0 M0 F st.tb g w) : ∀ (rs : List ResultVar) (zs : List AV), resA P st rs = some zs →
    ∃ vs, (rs.mapM (resF a.tmps)).run P w = .ok vs w ∧ RepVs g vs zs
  | [], zs, h => by simp only [resA, Option.some.injEq] at h; subst h; exact ⟨[], by simp, .nil⟩
  | .tmp t :: rs, zs, h => by
    simp only [resA] at h
    split at h
    · rename_i zs' hz
      injection h with h; subst h
      obtain ⟨vs, h1, h2⟩ := res_run hs hw rs zs' hz
      exact ⟨a.tmps.getD t undef :: vs, mapM_cons_run rfl h1, .cons (hs t) h2⟩
    · cases h
  | .cell ad ty :: rs, zs, h => by
    simp only [resA] at h
    split at h
    · rename_i z zs' hc hz
      injection h with h; subst h
      obtain ⟨vs, h1, h2⟩ := res_run hs hw rs zs' hz
      have hsl := hs ad
      unfold resA.cellA at hc
      split at hc
      · rename_i id off heq
        rw [heq] at hsl
        generalize hv : a.tmps.getD ad undef = v at hsl
        cases hsl with
        | obj e =>
          split at hc
          · rename_i ob ag s hl ha hs'
            obtain ⟨u, hu, hr⟩ := run_loadVar_obj (P := P) hw e hl ha hs' hc
            exact ⟨u :: vs, mapM_cons_run (by simp only [resF, hv, asAddr, Sem.run_bind, Sem.run_pure, Result.andThen_ok, hu]) h1, .cons hr h2⟩
          · cases hc
      · rename_i x heq
        rw [heq] at hsl
        split at hc
        · rename_i hf
          injection hc with hc; subst hc
          have := repV_p hsl
          generalize hv : a.tmps.getD ad undef = v at this
          cases this with
          | ref hat hru =>
            rename_i u
            have hl := run_loadVar_rep (P := P) hf hru hat hw.holds
            exact ⟨u :: vs, mapM_cons_run (by simp only [resF, hv, asAddr, Sem.run_bind, Sem.run_pure, Result.andThen_ok, hl]) h1, .cons (.p hru) h2⟩
        · cases hc
      · cases hc
    · cases h

theorem results_eq {fn : Func} {a : Act} {w : World} {vs : List Value} (h : (fn.results.toList.mapM (resF a.tmps)).run P w = .ok vs w) :
    (results fn a.tmps).run P w = .ok (packV vs) w := by
  have e : results fn a.tmps = (do
      let vs ← fn.results.mapM (resF a.tmps)
      pure (if h : vs.size = 1 then vs[0] else .tuple vs)) := by
    unfold results
    congr 1
  rw [e, Array.mapM_eq_mapM_toList, Sem.run_bind, Sem.run_map, h]
  simp only [Result.andThen_ok, Sem.run_pure]
  congr 1
  match vs with
  | [] => rfl
  | [v] => rfl
  | _ :: _ :: _ => simp [packV]

theorem packA_rep {g : G} {vs : List Value} {zs : List AV} (h : RepVs g vs zs) : RepV g (packV vs) (packA zs) := by
  cases h with
  | nil => exact .tup .nil
  | cons h1 hs =>
    cases hs with
    | nil => exact h1
    | cons h2 hs => exact .tup (.cons h1 (.cons h2 hs))

/-- A function's run, out of its abstract walk. -/
theorem run_of_aw {f : FuncId} {fn : Func} {c : Code} {xs : List AV} {tb : Tb} {cx : Cx} {R : List AV → Tb → Prop} (hm : P.follows .mixedOrders = true) (hf : P.funcs[f]? = some fn) (hb : fn.body = some c)
    (hk : codeOk cx.cls cx.ot fn.ntmps c = true) (hx : xs.length ≤ fn.ntmps) (hcx : cx.nx0 = tb.nx) (h : aw P cx c (initS xs tb) (QRet P fn R)) {g : G} {w : World} {vs : List Value} {F : Nat → Prop} (hw : SatW w g.M F tb g w) (hvs : RepVs g vs xs) :
    Calls P f vs.toArray w fun e w' => ∃ us zs g' tb', e = .returned (packV us) ∧ g.le g' ∧ SatW w g.M F tb' g' w' ∧ RepVs g' us zs ∧ R zs tb' := by
  have hlen := hvs.length
  refine calls_of_wp hf hb ?_
  let fr : Fr := ⟨w, g.M, F, g, fn.ntmps⟩
  have hfr : Fresh fr cx.nx0 := fun i hi => hw.fresh i (by omega)
  have hsat : SatF fr (initS xs tb) { tmps := vs.toArray ++ Array.replicate (fn.ntmps - vs.toArray.size) undef, defers := [] } w := by
    refine ⟨g, G.le_refl g, hw, ?_, ?_, rfl⟩
    · intro t
      have := initSl_rep (g := g) xs vs 0 hvs t
      simp only [Nat.sub_zero, Nat.zero_le, if_true] at this
      show RepV _ _ (initSl xs 0 t)
      by_cases ht : t < vs.length
      · have e : (vs.toArray ++ Array.replicate (fn.ntmps - vs.toArray.size) undef).getD t undef = (vs[t]?).getD undef := by
          simp [Array.getElem?_append, ht]
        rw [e]; exact this
      · rw [initSl_any xs 0 t (by omega)]; exact .any _
    · simp [fr]; omega
  refine wp_mono (aw_sound (fr := fr) hm hfr c _ _ hk h _ w hsat) ?_
  rintro e a w' ⟨st, hq, hs⟩
  obtain ⟨g', h0, h1, h2, h3, h4⟩ := hs
  have fin : retW P R st.tb (resA P st fn.results.toList) → a.defers = [] ∧ ∃ v, (results fn a.tmps).run P w' = .ok v w' ∧ ∃ us zs g' tb', Ending.returned v = .returned (packV us) ∧ g.le g' ∧ SatW w g.M F tb' g' w' ∧ RepVs g' us zs ∧ R zs tb' := by
    intro hres
    unfold retW at hres
    split at hres
    · rename_i zs hz
      obtain ⟨us, h5, h6⟩ := res_run h2 h1 _ _ hz
      exact ⟨h4, _, results_eq h5, us, zs, g', st.tb, rfl, h0, h1, h6, hres⟩
    · exact hres.elim
  cases e with
  | normal => exact fin hq
  | ret => exact fin hq
  | _ => exact hq.elim

end
end Go.Av

/-! part AvFn -/
namespace Go.Av
open Go.RowKit

section
variable {P : Program}

theorem toAll_p {g : G} {us : List Value} {zs : List AV} {ys : List PC} (h : RepVs g us zs) (k : toAll zs (ys.map .p)) : Reps g.M us ys := by
  have := repVs_to _ h k
  clear h k
  induction ys generalizing us with
  | nil => cases this; exact .nil
  | cons y ys ih => cases this with | cons h hs => exact .cons (repV_p h) (ih hs)

theorem packR_rep {M : Mem} {vs : List Value} {ys : List PC} (h : Reps M vs ys) : Rep M (packV vs) (packR ys) := by
  cases h with
  | nil => exact .tup .nil
  | cons h1 hs =>
    cases hs with
    | nil => exact h1
    | cons h2 hs => exact .tup (.cons h1 (.cons h2 hs))

/-- the results last -/
def RPure (ys : List PC) : List AV → Tb → Prop := fun zs _ => toAll zs (ys.map .p)

/-- A FUNCTION THAT ONLY COMPUTES, out of its abstract walk. -/
theorem pure_of_aw {f : FuncId} {fn : Func} {c : Code} {xs ys : List PC} {r : PC} (md : List Nat) (cls : List (Nat × List (Nat × Cls))) (lab : List (Nat × Nat)) (hm : P.follows .mixedOrders = true) (hf : P.funcs[f]? = some fn) (hb : fn.body = some c)
    (hnm : (fn.name == "runtime.NumGoroutine") = false) (hk : codeOk cls [] fn.ntmps c = true) (hx : xs.length ≤ fn.ntmps) (hr : r = packR ys) (h : aw P ⟨md, cls, lab, 0, []⟩ c (initS (xs.map .p) ⟨[], [], 0⟩) (QRet P fn (RPure ys))) : PureC P f xs r := by
  refine ⟨⟨fn, hf, hnm, by rw [hb]; rfl⟩, fun M w vs hH hvs => ?_⟩
  have hw : SatW w M (fun _ => False) ⟨[], [], 0⟩ ⟨M, fun _ => none, fun _ => none⟩ w := by
    refine ⟨hH, Keep.refl _ _, fun _ _ _ => rfl, Mem.le_refl _, ?_, ?_, ?_, ?_, ?_, ?_⟩
    · intro i o e; simp [lk] at e
    · intro i el sz e; simp [lk] at e
    · intro i j o p b c b' c' e; simp [lk] at e
    · intro i j o p u v b e; simp [lk] at e
    · intro i j o p b c v e; simp [lk] at e
    · intro i _; exact ⟨rfl, rfl⟩
  have := run_of_aw (cx := ⟨md, cls, lab, 0, []⟩) (g := ⟨M, fun _ => none, fun _ => none⟩) (F := fun _ => False) hm hf hb hk (by simpa using hx) rfl h hw (reps_p hvs)
  refine this.mono ?_
  rintro e w' ⟨us, zs, g', tb', rfl, hle, hS, hR, hz⟩
  have hreps := toAll_p hR hz
  refine ⟨_, g'.M, rfl, by rw [hr]; exact packR_rep hreps, hS.holds, hle.M, fun b hb => hS.old b hb (fun h => h), ?_⟩
  exact ⟨hS.keep.os, hS.keep.tape, hS.keep.output, hS.keep.size, fun k hk => hS.keep.block k hk (fun h => h)⟩

def rnF (rn : List (Nat × Nat)) (i : Nat) : Nat := (lk i rn).getD i

/-- the names are given anew -/
def renOk (nx0 : Nat) (rn : List (Nat × Nat)) (tb tb' : Tb) : Prop :=
  (∀ p ∈ rn, nx0 ≤ p.1) ∧ nx0 ≤ tb'.nx ∧ renB (rnF rn) tb'.nx tb.bx tb'.bx ∧ renR (rnF rn) tb'.nx tb.rw tb'.rw ∧ injL (rnF rn) tb'.bx ∧ injL (rnF rn) tb'.rw

theorem rnF_old {nx0 : Nat} {rn : List (Nat × Nat)} (h : ∀ p ∈ rn, nx0 ≤ p.1) {i : Nat} (hi : i < nx0) : rnF rn i = i := by
  have : lk i rn = none := by
    induction rn with
    | nil => rfl
    | cons p l ih =>
      have hp := h p (by simp)
      simp only [lk]
      rw [if_neg (by omega)]
      exact ih fun q hq => h q (by simp [hq])
  simp [rnF, this]

/-- the results, and what is handed back -/
def RGen (nx0 : Nat) (rs : List AV) (tb' : Tb) : List AV → Tb → Prop := fun zs tb => ∃ rn, renOk nx0 rn tb tb' ∧ toAll zs (AV.ren.rens (rnF rn) rs) ∧ AV.lim.lims tb'.nx rs = true

theorem gen_of_aw {f : FuncId} {fn : Func} {c : Code} {xs rs : List AV} {r : AV} {tb tb' : Tb} (md : List Nat) (cls : List (Nat × List (Nat × Cls))) (lab : List (Nat × Nat)) (hm : P.follows .mixedOrders = true) (hf : P.funcs[f]? = some fn) (hb : fn.body = some c)
    (hnm : (fn.name == "runtime.NumGoroutine") = false) (hk : codeOk cls [] fn.ntmps c = true) (hx : xs.length ≤ fn.ntmps) (hr : r = packA rs) (h : aw P ⟨md, cls, lab, tb.nx, []⟩ c (initS xs tb) (QRet P fn (RGen tb.nx rs tb'))) : GenC P f xs tb r tb' := by
  refine ⟨⟨fn, hf, hnm, by rw [hb]; rfl⟩, fun g w vs F hw hvs => ?_⟩
  have := run_of_aw (cx := ⟨md, cls, lab, tb.nx, []⟩) hm hf hb hk hx rfl h hw hvs
  refine this.mono ?_
  rintro e w' ⟨us, zs, g', t, rfl, hle, hS, hR, rn, ⟨h1, h2, h3, h4, h5, h6⟩, hto, hlim⟩
  refine ⟨_, g'.ren (rnF rn) tb'.nx, rfl, G.le_ren hle (nx0 := tb.nx) (fun i hi => hw.fresh i (by omega)) h2 (fun i hi => rnF_old h1 hi), hS.ren h3 h4 h5 h6, ?_⟩
  rw [hr]
  exact packA_rep (repVs_ren rs (repVs_to _ hR hto) hlim)

/-- .. where a region's orders are walked each -/
theorem gen_of_awT {f : FuncId} {fn : Func} {c : Code} {xs rs : List AV} {r : AV} {tb tb' : Tb} (md : List Nat) (cls : List (Nat × List (Nat × Cls))) (lab : List (Nat × Nat)) (ot : List (Nat × OT)) (hm : P.follows .mixedOrders = true) (hf : P.funcs[f]? = some fn) (hb : fn.body = some c)
    (hnm : (fn.name == "runtime.NumGoroutine") = false) (hk : codeOk cls ot fn.ntmps c = true) (hx : xs.length ≤ fn.ntmps) (hr : r = packA rs) (h : aw P ⟨md, cls, lab, tb.nx, ot⟩ c (initS xs tb) (QRet P fn (RGen tb.nx rs tb'))) : GenC P f xs tb r tb' := by
  refine ⟨⟨fn, hf, hnm, by rw [hb]; rfl⟩, fun g w vs F hw hvs => ?_⟩
  have := run_of_aw (cx := ⟨md, cls, lab, tb.nx, ot⟩) hm hf hb hk hx rfl h hw hvs
  refine this.mono ?_
  rintro e w' ⟨us, zs, g', t, rfl, hle, hS, hR, rn, ⟨h1, h2, h3, h4, h5, h6⟩, hto, hlim⟩
  refine ⟨_, g'.ren (rnF rn) tb'.nx, rfl, G.le_ren hle (nx0 := tb.nx) (fun i hi => hw.fresh i (by omega)) h2 (fun i hi => rnF_old h1 hi), hS.ren h3 h4 h5 h6, ?_⟩
  rw [hr]
  exact packA_rep (repVs_ren rs (repVs_to _ hR hto) hlim)

/-! ### steps of the mind alone -/

/-- the slots of which this is known -/
def mkSl : List (Nat × AV) → Nat → AV
  | [] => fun _ => .any
  | (k, v) :: l => upd (mkSl l) k v
@[reducible] def mkS (l : List (Nat × AV)) (tb : Tb) : AS := ⟨mkSl l, tb⟩

def leL (rn : List (Nat × Nat)) (m : Nat) (f : Nat → AV) : List (Nat × AV) → Prop
  | [] => True
  | (k, v) :: l => (f k).to (v.ren (rnF rn)) ∧ v.lim m = true ∧ leL rn m f l

theorem leL_rep {g : G} {rn : List (Nat × Nat)} {m : Nat} {f : Nat → AV} {t : Nat} {v : Value} (h : RepV g v (f t)) : ∀ (l : List (Nat × AV)), leL rn m f l → RepV (g.ren (rnF rn) m) v (mkSl l t)
  | [], _ => .any v
  | (k, x) :: l, hl => by
    simp only [mkSl, upd]
    split
    · rename_i e; subst e; exact repV_ren x (repV_to _ h hl.1) hl.2.1
    · exact leL_rep h l hl.2.2

theorem le_ren {nx0 : Nat} {st : AS} {l : List (Nat × AV)} {tb' : Tb} (rn : List (Nat × Nat)) (hr : renOk nx0 rn st.tb tb') (h : leL rn tb'.nx st.sl l) : st.le nx0 (mkS l tb') := by
  rintro fr a w hf ⟨g, h0, h1, h2, h3, h4⟩
  obtain ⟨k1, k2, k3, k4, k5, k6⟩ := hr
  exact ⟨g.ren (rnF rn) tb'.nx, G.le_ren h0 hf k2 (fun i hi => rnF_old k1 hi), h1.ren k3 k4 k5 k6, fun t => leL_rep (h2 t) l h, h3, h4⟩

theorem setRow_self {w : World} {b : Nat} {cur : Array Value} {el : TypeId} {f : Nat × Nat} (h : w.heap[b]? = some (.cells cur el f)) : w.setRow b cur = w := by
  obtain ⟨heap, tape, drawn, os, output⟩ := w
  simp only [World.setRow, World.mk.injEq, and_true] at h ⊢
  apply Array.ext_getElem?
  intro k
  rw [Array.getElem?_modify]
  split
  · rename_i e; subst e; rw [h]; rfl
  · rfl

/-- A list without spare room has all the room that there is: in a slot. -/
theorem le_own {nx0 : Nat} {st : AS} (t : Nat) (el sz : Nat) (xs : List PC) (h : st.sl t = .full xs ∨ xs = [] ∧ st.sl t = .p .nil) : st.le nx0 ⟨upd st.sl t (.own st.tb.nx xs), st.tb.addRw el sz⟩ := by
  rintro fr a w hf ⟨g, h0, h1, h2, h3, h4⟩
  have ht : ∃ ad n, a.tmps.getD t undef = .slice ad n n ∧ Rep g.M (.slice ad n n) (.sl xs) := by
    have := h2 t
    rcases h with h | ⟨rfl, h⟩
    · rw [h] at this
      generalize a.tmps.getD t undef = v at this ⊢
      cases this with | full hr => exact ⟨_, _, rfl, hr⟩
    · rw [h] at this
      have := repV_p this
      generalize a.tmps.getD t undef = v at this ⊢
      cases this; exact ⟨none, 0, rfl, .nilsl⟩
  obtain ⟨ad, n, hv, hr⟩ := ht
  refine ⟨g.rvAt st.tb.nx (.slice ad n n), h0.trans (h1.leRv _), h1.fullRw el sz ad n, fun u => ?_, h3, h4⟩
  simp only [upd]
  split
  · rename_i e; subst e; rw [hv]; exact .own (by simp [G.rvAt]) hr
  · exact (h2 u).mono (h1.leRv _)

end
end Go.Av
